/- MDictA: several texts of this claim in one file. No statement of the seat is proved here. -/
import Derived.Test.YteoledjllpgcbaaGreatDoorMDictP
import Derived.Test.YteoledjllpgcbaaGreatDoorMTok
namespace Go.Proofs.YteoledjllpgcbaaGreatDoor
set_option maxRecDepth 100000
set_option maxHeartbeats 64000000
set_option linter.unusedVariables false
open Go.RowKit
theorem bless : ∀ (a b : List UInt8), Op.bytesLess a b = decide (a < b)
 | [], [] => by simp [Op.bytesLess]
 | _ :: _, [] => by simp [Op.bytesLess]
 | [], _ :: _ => by simp [Op.bytesLess]
 | a :: x, b :: y => by
  rw [Op.bytesLess, bless x y]
  by_cases h1 : a < b
  ·
   rw [decide_eq_true h1, Bool.true_or]
   exact (decide_eq_true (List.cons_lt_cons_iff.2 (.inl h1))).symm
  ·
   rw [decide_eq_false h1, Bool.false_or]
   by_cases h2 : a = b
   ·
    subst h2
    by_cases h3 : x < y
    · rw [decide_eq_true h3, decide_eq_true (List.cons_lt_cons_iff.2 (.inr ⟨rfl, h3⟩))]; simp
    ·
     have h4 : ¬ (a :: x < a :: y) := fun h => by
      rcases List.cons_lt_cons_iff.1 h with h | ⟨_, h⟩
      · exact h1 h
      · exact h3 h
     rw [decide_eq_false h3, decide_eq_false h4]; simp
   ·
    have h4 : ¬ (a :: x < b :: y) := fun h => by
     rcases List.cons_lt_cons_iff.1 h with h | ⟨h, _⟩
     · exact h1 h
     · exact h2 h
    rw [show (a == b) = false from beq_eq_false_iff_ne.2 h2, decide_eq_false h4]; simp
theorem strLt (a b : List UInt8) : Op.bytesLess (str a).toList (str b).toList = decide (a < b) := by rw [str_toList, str_toList, bless]
theorem ord_lt {a b : List UInt8} (h : a < b) : Op.bytesLess (str a).toList (str b).toList = true ∧ ((str a).toList == (str b).toList) = false := ⟨by rw [strLt]; exact decide_eq_true h, by rw [strEq]; exact decide_eq_false (Dc.lt_ne h)⟩
theorem ord_eq (a : List UInt8) : Op.bytesLess (str a).toList (str a).toList = false ∧ ((str a).toList == (str a).toList) = true := ⟨by rw [strLt]; exact decide_eq_false (Dc.lt_irr a), by rw [strEq]; exact decide_eq_true rfl⟩
theorem ord_gt {a b : List UInt8} (h : b < a) : Op.bytesLess (str a).toList (str b).toList = false ∧ ((str a).toList == (str b).toList) = false := ⟨by rw [strLt]; exact decide_eq_false (Dc.lt_no h), by rw [strEq]; exact decide_eq_false (fun e => Dc.lt_ne h e.symm)⟩
theorem enc1_cells {w : World} {A : Option Addr} {n c : Nat} {L : List EnD} (h : InEs w A n c L) {k : Nat} (hk : k < n) : ∃ b off e, A = some ⟨b, off, none⟩ ∧ b < w.heap.size ∧ L[k]? = some e ∧ InEn w e ∧ ∀ W, Below w.heap.size w W → W.cell? ⟨b, off + k * 2, none⟩ = some (sv e.t) ∧ W.cell? ⟨b, off + k * 2 + 1, none⟩ = some (.slice e.a e.n e.c) := by
 obtain ⟨b, off, e, hA, hb, he, hc⟩ := h.q.at enc1_len (by omega) hk
 exact ⟨b, off, e, hA, hb, he, h.i e (List.mem_of_getElem? he), fun W hW => ⟨hc W hW 0 _ rfl, hc W hW 1 _ rfl⟩⟩
def Dc.great (L : List EnD) : Bool := (L.any fun e => decide (200 < e.t.length) || decide (200 < e.l.length)) || decide (100 < L.length)
theorem Dc.great_no {L : List EnD} (h : Dc.great L = false) : (∀ e ∈ L, e.t.length ≤ 200 ∧ e.l.length ≤ 200) ∧ L.length ≤ 100 := by
 unfold Dc.great at h
 rw [Bool.or_eq_false_iff, List.any_eq_false, decide_eq_false_iff_not] at h
 refine ⟨fun e he => ?_, by omega⟩
 have := h.1 e he
 rw [Bool.or_eq_true, decide_eq_true_eq, decide_eq_true_eq] at this
 omega
theorem great10_any (A : Option Addr) (n c : Nat) (L : List EnD) (w : World) (hs : InEs w A n c L) : Calls Tryz.prog 7 #[.slice A n c] w (RetB (Dc.great L) w) := by
 have hm := hs.q.max
 have hcap := hs.q.cap
 have hlen := hs.q.len
 rw [maxLen_eq] at hm
 have HS := Lib.hid hs
 have HLN := Lib.hid hlen
 clear hs hlen
 go_enter Tryz.func7, Tryz.ntmps7
 go_wp2
 go_loopw [3] (fun vi wr => ∃ k : Nat, k ≤ n ∧ vi = .int .i64 k ∧ Hid ((∀ j e, j < k → L[j]? = some e → e.t.length ≤ 200 ∧ e.l.length ≤ 200) ∧ Below w.heap.size w wr)) (fun vi _ => n - (intOf vi).toNat)
 case atStart => exact ⟨0, by omega, rfl, Lib.hid ⟨fun j e h => by omega, Below.refl _ _⟩⟩
 case round =>
  obtain ⟨k, hk, rfl, H⟩ := hrel
  by_cases hlt : k < n
  ·
   obtain ⟨b, off, e, rfl, hb, he, hin, hcs⟩ := enc1_cells HS.out hlt
   obtain ⟨x0, x1⟩ := hcs wr H.out.2
   have zl := strLen e.t
   have hzn := hin.z.len
   have HE := Lib.hid he
   have ec := hin.z.cap
   have em := hin.z.max
   rw [maxLen_eq] at em
   have et := hin.t
   rw [maxLen_eq] at et
   have hbig (h : 200 < e.t.length ∨ 200 < e.n) : Dc.great L = true := by
    unfold Dc.great
    rw [Bool.or_eq_true]
    exact .inl (List.any_eq_true.2 ⟨e, List.mem_of_getElem? HE.out, by rw [Bool.or_eq_true, decide_eq_true_eq, decide_eq_true_eq, hzn]; exact h⟩)
   have hnext (h1 : e.t.length ≤ 200) (h2 : e.n ≤ 200) : ∀ j f, j < k + 1 → L[j]? = some f → f.t.length ≤ 200 ∧ f.l.length ≤ 200 := fun j f hj ht => by
    by_cases ej : j = k
    ·
     subst ej
     have := HE.out
     rw [ht] at this
     injection this with this
     rw [this, hzn]
     exact ⟨h1, h2⟩
    · exact H.out.1 j f (by omega) ht
   have HBIG := Lib.hid hbig
   have HNX := Lib.hid hnext
   clear hcs he hin hzn hbig hnext
   obtain ⟨q, hq⟩ : ∃ q, e.t.length = q := ⟨_, rfl⟩
   rw [hq] at zl et HBIG HNX
   clear hq
   by_cases h1 : 200 < q
   ·
    have HF := Lib.hid (HBIG.out (.inl h1))
    have a1 : (200 : Int) < (q : Int) := by omega
    go_wp2
    go_ret
    exact ⟨by rw [HF.out]; rfl, H.out.2⟩
   ·
    have a1 : ¬ (200 : Int) < (q : Int) := by omega
    by_cases h2 : 200 < e.n
    ·
     have HF := Lib.hid (HBIG.out (.inr h2))
     have a2 : (200 : Int) < (e.n : Int) := by omega
     go_wp2
     go_ret
     exact ⟨by rw [HF.out]; rfl, H.out.2⟩
    ·
     have a2 : ¬ (200 : Int) < (e.n : Int) := by omega
     have HNX2 := Lib.hid (HNX.out (by omega) (by omega))
     go_wp2
     go_roundw
     case rel => exact ⟨k + 1, by omega, by go_num, Lib.hid ⟨HNX2.out, H.out.2⟩⟩
     case measure => simp [intOf]; omega
  ·
   obtain rfl : k = n := by omega
   have hfin := Lib.hid (show Dc.great L = decide (100 < k) by
    unfold Dc.great
    have : (L.any fun e => decide (200 < e.t.length) || decide (200 < e.l.length)) = false := List.any_eq_false.2 fun e hem => by
     obtain ⟨j, hj, ej⟩ := List.getElem_of_mem hem
     have := H.out.1 j e (by have := HLN.out; omega) (by rw [← ej]; exact List.getElem?_eq_getElem hj)
     rw [Bool.or_eq_true, decide_eq_true_eq, decide_eq_true_eq]
     omega
    rw [this, Bool.false_or, HLN.out])
   have hd := Lib.hid (dec_nat 100 k)
   go_wp2
   go_ret
   exact ⟨by rw [hfin.out, ← hd.out]; rfl, H.out.2⟩
structure Dc.Seen (L : List EnD) (k : Nat) : Prop where
 ok : ∀ j e, j < k → L[j]? = some e → Dc.okE e = true
 up : ∀ j e f, j + 1 < k → L[j]? = some e → L[j + 1]? = some f → e.t < f.t
theorem Dc.Seen.start (L : List EnD) : Dc.Seen L 0 := ⟨fun j e h => by omega, fun j e f h => by omega⟩
theorem Dc.Seen.first {L : List EnD} {e : EnD} (h : Dc.Seen L 0) (he : L[0]? = some e) (hok : Dc.okE e = true) : Dc.Seen L 1 :=
 ⟨fun j f hj hf => by
            obtain rfl : j = 0 := by omega
            rw [he] at hf; injection hf with hf; rw [← hf]; exact hok, fun j e f hj => by omega⟩
theorem Dc.Seen.next {L : List EnD} {m : Nat} {e f : EnD} (h : Dc.Seen L (m + 1)) (hf : L[m]? = some f) (he : L[m + 1]? = some e) (hlt : f.t < e.t) (hok : Dc.okE e = true) : Dc.Seen L (m + 1 + 1) := by
 refine ⟨fun j g hj hg => ?_, fun j a b hj ha hb => ?_⟩
 ·
  by_cases e1 : j = m + 1
  · subst e1; rw [he] at hg; injection hg with hg; rw [← hg]; exact hok
  · exact h.ok j g (by omega) hg
 ·
  by_cases e1 : j = m
  ·
   subst e1
   rw [hf] at ha; rw [he] at hb
   injection ha with ha; injection hb with hb
   rw [← ha, ← hb]; exact hlt
  · exact h.up j a b (by omega) ha hb
theorem Dc.Seen.all {L : List EnD} {k : Nat} (h : Dc.Seen L k) (hk : L.length = k) : Dc.right L = true :=
 Dc.right_yes ⟨fun j e he => h.ok j e (by have := (List.getElem?_eq_some_iff.1 he).1; omega) he, fun j e f he hf => h.up j e f (by have := (List.getElem?_eq_some_iff.1 hf).1; omega) he hf⟩
theorem Dc.bad_ok {L : List EnD} {k : Nat} {e : EnD} (he : L[k]? = some e) (h : Dc.okE e = false) : Dc.right L = false := Dc.right_no fun g => by rw [g.ok k e he] at h; cases h
theorem Dc.bad_up {L : List EnD} {k : Nat} {e f : EnD} (he : L[k]? = some e) (hf : L[k + 1]? = some f) (h : ¬ e.t < f.t) : Dc.right L = false := Dc.right_no fun g => h (g.up k e f he hf)
theorem Dc.okE_len {e : EnD} (h : e.l.length = 0) : Dc.okE e = false := by unfold Dc.okE; rw [List.eq_nil_of_length_eq_zero h]; rfl
theorem Dc.okE_post {e : EnD} (h : Post.right e.l = false) : Dc.okE e = false := by unfold Dc.okE; rw [h]; simp
theorem Dc.okE_tok {e : EnD} (h : Tok.right e.t = false) : Dc.okE e = false := by unfold Dc.okE; rw [h]; simp
theorem Dc.okE_yes {e : EnD} (h0 : ¬ e.l.length = 0) (h1 : Post.right e.l = true) (h2 : Tok.right e.t = true) : Dc.okE e = true := Dc.okE_iff.2 ⟨fun h => h0 (by rw [h]; rfl), h1, h2⟩
theorem dright_any (A : Option Addr) (n c : Nat) (L : List EnD) (w : World) (hs : InEs w A n c L) (hl : ∀ e ∈ L, e.t.length ≤ 200) (ht : Ut.UTabs w) : Calls Tryz.prog 66 #[.slice A n c] w (RetB (Dc.right L) w) := by
 have hm := hs.q.max
 have hcap := hs.q.cap
 have hlen := hs.q.len
 rw [maxLen_eq] at hm
 have HS := Lib.hid hs
 have HLN := Lib.hid hlen
 have HL := Lib.hid hl
 have HT := Lib.hid ht
 clear hs hlen hl ht
 go_enter Tryz.func66, Tryz.ntmps66
 go_wp2
 go_loopw [7] (fun vi wr => ∃ k : Nat, k ≤ n ∧ vi = .int .i64 k ∧ Hid (Dc.Seen L k ∧ Below w.heap.size w wr)) (fun vi _ => n - (intOf vi).toNat)
 case atStart => exact ⟨0, by omega, rfl, Lib.hid ⟨Dc.Seen.start L, Below.refl _ _⟩⟩
 case round =>
  obtain ⟨k, hk, rfl, H⟩ := hrel
  by_cases hlt : k < n
  ·
   obtain ⟨b, off, e, rfl, hb, he, hin, hcs⟩ := enc1_cells HS.out hlt
   obtain ⟨x0, x1⟩ := hcs wr H.out.2
   have HE := Lib.hid he
   have HIN := Lib.hid hin
   have HTL := Lib.hid (HL.out e (List.mem_of_getElem? he))
   have hen := hin.z.len
   have hec := hin.z.cap
   have hem := hin.z.max
   rw [maxLen_eq] at hem
   have HEN := Lib.hid hen
   clear he hin hen
   cases k with
   | zero =>
    clear hcs
    simp only [Nat.zero_mul, Nat.add_zero] at x0 x1
    go_upto_region 4 with fail
    have hbx : Below wr.heap.size wr (wr.alloc (.cells #[sv e.t, .slice e.a e.n e.c] 63)) := (Below.refl _ wr).alloc (Nat.le_refl _) _
    have hrx := row_new wr #[sv e.t, .slice e.a e.n e.c] 63
    obtain ⟨wy, hwy⟩ : ∃ wy, wr.alloc (.cells #[sv e.t, .slice e.a e.n e.c] 63) = wy := ⟨_, rfl⟩
    rw [hwy] at hbx hrx ⊢
    have HBY := Lib.hid (bt H.out.2 hbx)
    have HRX := Lib.hid hrx
    have y0 := hrx.cellQ 0 _ rfl
    have y1 := hrx.cellQ 1 _ rfl
    clear hbx hrx hwy x0 x1
    go_wp2_with fail
    go_quiet (fail)
    by_cases h1 : e.n = 0
    ·
     have HF := Lib.hid (Dc.bad_ok HE.out (Dc.okE_len (by rw [HEN.out]; exact h1)))
     have a1 : ((e.n : Int) == 0) = true := by rw [h1]; rfl
     have a2 : (e.n : Int) = 0 := by omega
     go_wp2
     go_ret
     exact ⟨by rw [HF.out]; rfl, (HBY.out.trans (bel_drewN _ _ _))⟩
    have a1 : ((e.n : Int) == 0) = false := beq_eq_false_iff_ne.2 (by omega)
    have a2 : ¬ (e.n : Int) = 0 := by omega
    have CP := (fun W (hW : Below w.heap.size w W) => right_any e.a e.n e.c e.l W (HIN.out.z.keep hW))
    cases hp : Post.right e.l with
    | false =>
     have HF := Lib.hid (Dc.bad_ok HE.out (Dc.okE_post hp))
     rw [hp] at CP
     have CP := Lib.hid CP
     clear hp
     go_wp2_with fail
     (with_reducible refine (CP.out _ (HBY.out.trans (bel_drewN _ _ _))).mono ?_)
     rintro v w3 ⟨rfl, rfl⟩
     go_wp2
     go_ret
     exact ⟨by rw [HF.out]; rfl, (HBY.out.trans (bel_drewN _ _ _))⟩
    | true =>
     have HP := Lib.hid hp
     rw [hp] at CP
     have CP := Lib.hid CP
     clear hp
     have CT := (fun W (hW : Below w.heap.size w W) => tright_any e.t W (Nat.le_trans HTL.out (by decide)) (HT.out.below hW))
     cases htk : Tok.right e.t with
     | false =>
      have HF := Lib.hid (Dc.bad_ok HE.out (Dc.okE_tok htk))
      rw [htk] at CT
      unfold TokPost at CT
      have CT := Lib.hid CT
      clear htk
      go_wp2_with fail
      (with_reducible refine (CP.out _ (HBY.out.trans (bel_drewN _ _ _))).mono ?_)
      rintro v w3 ⟨rfl, rfl⟩
      go_wp2_with fail
      (with_reducible refine (CT.out _ (HBY.out.trans (bel_drewN _ _ _))).mono ?_)
      rintro v w4 ⟨rfl, hb4⟩
      have HB4 := Lib.hid (bt (HBY.out.trans (bel_drewN _ _ _)) hb4)
      clear hb4
      go_wp2
      go_ret
      exact ⟨by rw [HF.out]; rfl, HB4.out⟩
     | true =>
      have HNX := Lib.hid (H.out.1.first HE.out (Dc.okE_yes (by rw [HEN.out]; exact h1) HP.out htk))
      rw [htk] at CT
      unfold TokPost at CT
      have CT := Lib.hid CT
      clear htk
      go_wp2_with fail
      (with_reducible refine (CP.out _ (HBY.out.trans (bel_drewN _ _ _))).mono ?_)
      rintro v w3 ⟨rfl, rfl⟩
      go_wp2_with fail
      (with_reducible refine (CT.out _ (HBY.out.trans (bel_drewN _ _ _))).mono ?_)
      rintro v w4 ⟨rfl, hb4⟩
      have HB4 := Lib.hid (bt (HBY.out.trans (bel_drewN _ _ _)) hb4)
      clear hb4
      go_wp2
      go_roundw
      case rel => exact ⟨0 + 1, by omega, by go_num, Lib.hid ⟨HNX.out, HB4.out⟩⟩
      case measure => simp [intOf]; omega
   | succ m =>
    obtain ⟨b2, off2, f, hA2, hb2, hf, hin2, hcs2⟩ := enc1_cells HS.out (show m < n by omega)
    injection hA2 with hA2
    injection hA2 with h1 h2
    subst h1 h2
    have HF2 := Lib.hid hf
    clear hf hin2 hb2 hcs
    by_cases ho : f.t < e.t
    ·
     have HO := Lib.hid ho
     obtain ⟨o1, o2⟩ := ord_gt ho
     clear ho
     go_upto_region 4 with fail
     have hbx : Below wr.heap.size wr (wr.alloc (.cells #[sv e.t, .slice e.a e.n e.c] 63)) := (Below.refl _ wr).alloc (Nat.le_refl _) _
     have hrx := row_new wr #[sv e.t, .slice e.a e.n e.c] 63
     obtain ⟨wy, hwy⟩ : ∃ wy, wr.alloc (.cells #[sv e.t, .slice e.a e.n e.c] 63) = wy := ⟨_, rfl⟩
     rw [hwy] at hbx hrx ⊢
     have HBY := Lib.hid (bt H.out.2 hbx)
     have HRX := Lib.hid hrx
     have y0 := hrx.cellQ 0 _ rfl
     have y1 := hrx.cellQ 1 _ rfl
     clear hbx hrx hwy x0 x1
     have z0 := (hcs2 wy HBY.out).1
     have hm0 : (0 : Int) < (m : Int) + 1 := by omega
     go_wp2_with fail
     go_quiet (fail)
     clear z0 hm0 o1 o2
     by_cases h1 : e.n = 0
     ·
      have HF := Lib.hid (Dc.bad_ok HE.out (Dc.okE_len (by rw [HEN.out]; exact h1)))
      have a1 : ((e.n : Int) == 0) = true := by rw [h1]; rfl
      have a2 : (e.n : Int) = 0 := by omega
      go_wp2
      go_ret
      exact ⟨by rw [HF.out]; rfl, (HBY.out.trans (bel_drewN _ _ _))⟩
     have a1 : ((e.n : Int) == 0) = false := beq_eq_false_iff_ne.2 (by omega)
     have a2 : ¬ (e.n : Int) = 0 := by omega
     have CP := (fun W (hW : Below w.heap.size w W) => right_any e.a e.n e.c e.l W (HIN.out.z.keep hW))
     cases hp : Post.right e.l with
     | false =>
      have HF := Lib.hid (Dc.bad_ok HE.out (Dc.okE_post hp))
      rw [hp] at CP
      have CP := Lib.hid CP
      clear hp
      go_wp2_with fail
      (with_reducible refine (CP.out _ (HBY.out.trans (bel_drewN _ _ _))).mono ?_)
      rintro v w3 ⟨rfl, rfl⟩
      go_wp2
      go_ret
      exact ⟨by rw [HF.out]; rfl, (HBY.out.trans (bel_drewN _ _ _))⟩
     | true =>
      have HP := Lib.hid hp
      rw [hp] at CP
      have CP := Lib.hid CP
      clear hp
      have CT := (fun W (hW : Below w.heap.size w W) => tright_any e.t W (Nat.le_trans HTL.out (by decide)) (HT.out.below hW))
      cases htk : Tok.right e.t with
      | false =>
       have HF := Lib.hid (Dc.bad_ok HE.out (Dc.okE_tok htk))
       rw [htk] at CT
       unfold TokPost at CT
       have CT := Lib.hid CT
       clear htk
       go_wp2_with fail
       (with_reducible refine (CP.out _ (HBY.out.trans (bel_drewN _ _ _))).mono ?_)
       rintro v w3 ⟨rfl, rfl⟩
       go_wp2_with fail
       (with_reducible refine (CT.out _ (HBY.out.trans (bel_drewN _ _ _))).mono ?_)
       rintro v w4 ⟨rfl, hb4⟩
       have HB4 := Lib.hid (bt (HBY.out.trans (bel_drewN _ _ _)) hb4)
       clear hb4
       go_wp2
       go_ret
       exact ⟨by rw [HF.out]; rfl, HB4.out⟩
      | true =>
       have HNX := Lib.hid (H.out.1.next HF2.out HE.out HO.out (Dc.okE_yes (by rw [HEN.out]; exact h1) HP.out htk))
       rw [htk] at CT
       unfold TokPost at CT
       have CT := Lib.hid CT
       clear htk
       go_wp2_with fail
       (with_reducible refine (CP.out _ (HBY.out.trans (bel_drewN _ _ _))).mono ?_)
       rintro v w3 ⟨rfl, rfl⟩
       go_wp2_with fail
       (with_reducible refine (CT.out _ (HBY.out.trans (bel_drewN _ _ _))).mono ?_)
       rintro v w4 ⟨rfl, hb4⟩
       have HB4 := Lib.hid (bt (HBY.out.trans (bel_drewN _ _ _)) hb4)
       clear hb4
       go_wp2
       go_roundw
       case rel => exact ⟨m + 1 + 1, by omega, by go_num, Lib.hid ⟨HNX.out, HB4.out⟩⟩
       case measure => simp [intOf]; omega
    ·
     have HF := Lib.hid (Dc.bad_up HF2.out HE.out ho)
     have hm0 : (0 : Int) < (m : Int) + 1 := by omega
     go_upto_region 4 with fail
     have hbx : Below wr.heap.size wr (wr.alloc (.cells #[sv e.t, .slice e.a e.n e.c] 63)) := (Below.refl _ wr).alloc (Nat.le_refl _) _
     have hrx := row_new wr #[sv e.t, .slice e.a e.n e.c] 63
     obtain ⟨wy, hwy⟩ : ∃ wy, wr.alloc (.cells #[sv e.t, .slice e.a e.n e.c] 63) = wy := ⟨_, rfl⟩
     rw [hwy] at hbx hrx ⊢
     have HBY := Lib.hid (bt H.out.2 hbx)
     have HRX := Lib.hid hrx
     have y0 := hrx.cellQ 0 _ rfl
     have y1 := hrx.cellQ 1 _ rfl
     clear hbx hrx hwy x0 x1
     have z0 := (hcs2 wy HBY.out).1
     rcases Dc.lt_tri f.t e.t with ho2 | ho2 | ho2
     · exact absurd ho2 ho
     ·
      rw [ho2] at z0
      obtain ⟨o1, o2⟩ := ord_eq e.t
      go_wp2_with fail
      go_quiet (fail)
      go_wp2
      go_ret
      exact ⟨by rw [HF.out]; rfl, (HBY.out.trans (bel_drewN _ _ _))⟩
     ·
      obtain ⟨o1, o2⟩ := ord_lt ho2
      go_wp2_with fail
      go_quiet (fail)
      go_wp2
      go_ret
      exact ⟨by rw [HF.out]; rfl, (HBY.out.trans (bel_drewN _ _ _))⟩
  ·
   obtain rfl : k = n := by omega
   have HF := Lib.hid (H.out.1.all HLN.out)
   go_wp2
   go_ret
   exact ⟨by rw [HF.out]; rfl, H.out.2⟩
theorem rdright_any (A : Option Addr) (n c : Nat) (L : List EnD) (w : World) (hs : InEs w A n c L) (hl : ∀ e ∈ L, e.t.length ≤ 200) : Calls Tryz.prog 10 #[.slice A n c] w (RetB (Dc.right L) w) := by
 have hm := hs.q.max
 have hcap := hs.q.cap
 have hlen := hs.q.len
 rw [maxLen_eq] at hm
 have HS := Lib.hid hs
 have HLN := Lib.hid hlen
 have HL := Lib.hid hl
 clear hs hlen hl
 go_enter Tryz.func10, Tryz.ntmps10
 go_wp2
 go_loopw [3] (fun vi wr => ∃ k : Nat, k ≤ n ∧ vi = .int .i64 k ∧ Hid ((∀ j e, j < k → L[j]? = some e → Dc.okE e = true) ∧ (∀ j e f, j < k → L[j]? = some e → L[j + 1]? = some f → e.t < f.t) ∧ Below w.heap.size w wr)) (fun vi _ => n - (intOf vi).toNat)
 case atStart => exact ⟨0, by omega, rfl, Lib.hid ⟨fun j e h => by omega, fun j e f h => by omega, Below.refl _ _⟩⟩
 case round =>
  obtain ⟨k, hk, rfl, H⟩ := hrel
  by_cases hlt : k < n
  ·
   obtain ⟨b, off, e, rfl, hb, he, hin, hcs⟩ := enc1_cells HS.out hlt
   have HCS := Lib.hid hcs
   obtain ⟨x0, x1⟩ := hcs wr H.out.2.2
   have HE := Lib.hid he
   have HIN := Lib.hid hin
   have HTL := Lib.hid (HL.out e (List.mem_of_getElem? he))
   have hen := hin.z.len
   have hec := hin.z.cap
   have hem := hin.z.max
   rw [maxLen_eq] at hem
   have HEN := Lib.hid hen
   clear he hin hen hcs
   have CT := (fun W (hW : Below w.heap.size w W) => tokRight_any e.t W (Nat.le_trans HTL.out (by decide)))
   cases htk : Tok.right e.t with
   | false =>
    have HF := Lib.hid (Dc.bad_ok HE.out (Dc.okE_tok htk))
    rw [htk] at CT
    have CT := Lib.hid CT
    clear htk
    go_wp2_with fail
    (with_reducible refine (CT.out _ H.out.2.2).mono ?_)
    rintro v w3 ⟨rfl, hb3⟩
    have HB3 := Lib.hid (bt H.out.2.2 hb3)
    clear hb3
    go_wp2
    go_ret
    exact ⟨by rw [HF.out]; rfl, HB3.out⟩
   | true =>
    have HK := Lib.hid htk
    rw [htk] at CT
    have CT := Lib.hid CT
    clear htk
    by_cases h1 : e.n = 0
    ·
     have HF := Lib.hid (Dc.bad_ok HE.out (Dc.okE_len (by rw [HEN.out]; exact h1)))
     have a1 : ((e.n : Int) == 0) = true := by rw [h1]; rfl
     have a2 : (e.n : Int) = 0 := by omega
     go_wp2_with fail
     (with_reducible refine (CT.out _ H.out.2.2).mono ?_)
     rintro v w3 ⟨rfl, hb3⟩
     have HB3 := Lib.hid (bt H.out.2.2 hb3)
     clear hb3 x0 x1
     obtain ⟨x0, x1⟩ := HCS.out w3 HB3.out
     go_wp2
     go_ret
     exact ⟨by rw [HF.out]; rfl, HB3.out⟩
    have a1 : ((e.n : Int) == 0) = false := beq_eq_false_iff_ne.2 (by omega)
    have a2 : ¬ (e.n : Int) = 0 := by omega
    have CP := (fun W (hW : Below w.heap.size w W) => rright9_any e.a e.n e.c e.l W (HIN.out.z.keep hW))
    unfold RetB at CP
    cases hp : Post.right e.l with
    | false =>
     have HF := Lib.hid (Dc.bad_ok HE.out (Dc.okE_post hp))
     rw [hp] at CP
     have CP := Lib.hid CP
     clear hp
     go_wp2_with fail
     (with_reducible refine (CT.out _ H.out.2.2).mono ?_)
     rintro v w3 ⟨rfl, hb3⟩
     have HB3 := Lib.hid (bt H.out.2.2 hb3)
     clear hb3 x0 x1
     obtain ⟨x0, x1⟩ := HCS.out w3 HB3.out
     go_wp2_with fail
     (with_reducible refine (CP.out _ HB3.out).mono ?_)
     rintro v w4 ⟨rfl, hb4⟩
     have HB4 := Lib.hid (bt HB3.out hb4)
     clear hb4
     go_wp2
     go_ret
     exact ⟨by rw [HF.out]; rfl, HB4.out⟩
    | true =>
     have HP := Lib.hid hp
     rw [hp] at CP
     have CP := Lib.hid CP
     have HOK := Lib.hid (Dc.okE_yes (by rw [HEN.out]; exact h1) hp HK.out)
     clear hp
     by_cases hk1 : k + 1 < n
     ·
      obtain ⟨b2, off2, f, hA2, hb2, hf, hin2, hcs2⟩ := enc1_cells HS.out hk1
      injection hA2 with hA2
      injection hA2 with h1 h2
      subst h1 h2
      have HF2 := Lib.hid hf
      have kk : (k : Int) + 1 < (n : Int) := by omega
      clear hf hin2 hb2
      rcases Dc.lt_tri e.t f.t with ho | ho | ho
      ·
       have HO := Lib.hid ho
       obtain ⟨o1, o2⟩ := ord_lt ho
       go_wp2_with fail
       (with_reducible refine (CT.out _ H.out.2.2).mono ?_)
       rintro v w3 ⟨rfl, hb3⟩
       have HB3 := Lib.hid (bt H.out.2.2 hb3)
       clear hb3 x0 x1
       obtain ⟨x0, x1⟩ := HCS.out w3 HB3.out
       go_wp2_with fail
       (with_reducible refine (CP.out _ HB3.out).mono ?_)
       rintro v w4 ⟨rfl, hb4⟩
       have HB4 := Lib.hid (bt HB3.out hb4)
       clear hb4 x0 x1
       obtain ⟨x0, x1⟩ := HCS.out w4 HB4.out
       have z0 := (hcs2 w4 HB4.out).1
       clear hcs2
       go_wp2_with fail
       go_quiet (fail)
       go_wp2
       go_roundw
       case rel => exact ⟨k + 1, by omega, by go_num, Lib.hid ⟨fun j g hj hg => by
         by_cases ej : j = k
         · subst ej; have := HE.out; rw [hg] at this; injection this with this; rw [this]; exact HOK.out
         · exact H.out.1 j g (by omega) hg, fun j g g2 hj hg hg2 => by
         by_cases ej : j = k
         · subst ej; have h3 := HE.out; have h4 := HF2.out; rw [hg] at h3; rw [hg2] at h4; injection h3 with h3; injection h4 with h4; rw [h3, h4]; exact HO.out
         · exact H.out.2.1 j g g2 (by omega) hg hg2, (HB4.out.trans (bel_drewN _ _ _))⟩⟩
       case measure => simp [intOf]; omega
      ·
       have HF := Lib.hid (Dc.bad_up HE.out HF2.out (by rw [ho]; exact Dc.lt_irr _))
       obtain ⟨o1, o2⟩ := ord_eq f.t
       rw [ho] at HCS
       rw [ho] at x0
       rw [ho] at CT
       go_wp2_with fail
       (with_reducible refine (CT.out _ H.out.2.2).mono ?_)
       rintro v w3 ⟨rfl, hb3⟩
       have HB3 := Lib.hid (bt H.out.2.2 hb3)
       clear hb3 x0 x1
       obtain ⟨x0, x1⟩ := HCS.out w3 HB3.out
       go_wp2_with fail
       (with_reducible refine (CP.out _ HB3.out).mono ?_)
       rintro v w4 ⟨rfl, hb4⟩
       have HB4 := Lib.hid (bt HB3.out hb4)
       clear hb4 x0 x1
       obtain ⟨x0, x1⟩ := HCS.out w4 HB4.out
       have z0 := (hcs2 w4 HB4.out).1
       clear hcs2
       go_wp2_with fail
       go_quiet (fail)
       go_wp2
       go_ret
       exact ⟨by rw [HF.out]; rfl, (HB4.out.trans (bel_drewN _ _ _))⟩
      ·
       have HF := Lib.hid (Dc.bad_up HE.out HF2.out (Dc.lt_no ho))
       obtain ⟨o1, o2⟩ := ord_gt ho
       go_wp2_with fail
       (with_reducible refine (CT.out _ H.out.2.2).mono ?_)
       rintro v w3 ⟨rfl, hb3⟩
       have HB3 := Lib.hid (bt H.out.2.2 hb3)
       clear hb3 x0 x1
       obtain ⟨x0, x1⟩ := HCS.out w3 HB3.out
       go_wp2_with fail
       (with_reducible refine (CP.out _ HB3.out).mono ?_)
       rintro v w4 ⟨rfl, hb4⟩
       have HB4 := Lib.hid (bt HB3.out hb4)
       clear hb4 x0 x1
       obtain ⟨x0, x1⟩ := HCS.out w4 HB4.out
       have z0 := (hcs2 w4 HB4.out).1
       clear hcs2
       go_wp2_with fail
       go_quiet (fail)
       go_wp2
       go_ret
       exact ⟨by rw [HF.out]; rfl, (HB4.out.trans (bel_drewN _ _ _))⟩
     ·
      have kk : ¬ (k : Int) + 1 < (n : Int) := by omega
      have kd : decide ((k : Int) + 1 < (n : Int)) = false := decide_eq_false kk
      have ke : (n : Int) ≤ (k : Int) + 1 := by omega
      go_wp2_with fail
      (with_reducible refine (CT.out _ H.out.2.2).mono ?_)
      rintro v w3 ⟨rfl, hb3⟩
      have HB3 := Lib.hid (bt H.out.2.2 hb3)
      clear hb3 x0 x1
      obtain ⟨x0, x1⟩ := HCS.out w3 HB3.out
      go_wp2_with fail
      (with_reducible refine (CP.out _ HB3.out).mono ?_)
      rintro v w4 ⟨rfl, hb4⟩
      have HB4 := Lib.hid (bt HB3.out hb4)
      clear hb4 x0 x1
      obtain ⟨x0, x1⟩ := HCS.out w4 HB4.out
      go_wp2_with fail
      go_quiet (fail)
      go_wp2
      go_roundw
      case rel => exact ⟨k + 1, by omega, by go_num, Lib.hid ⟨fun j g hj hg => by
        by_cases ej : j = k
        · subst ej; have := HE.out; rw [hg] at this; injection this with this; rw [this]; exact HOK.out
        · exact H.out.1 j g (by omega) hg, fun j g g2 hj hg hg2 => by
        by_cases ej : j = k
        · have := (List.getElem?_eq_some_iff.1 hg2).1; have := HLN.out; omega
        · exact H.out.2.1 j g g2 (by omega) hg hg2, (HB4.out.trans (bel_drewN _ _ _))⟩⟩
      case measure => simp [intOf]; omega
  ·
   obtain rfl : k = n := by omega
   have HF := Lib.hid (show Dc.right L = true from Dc.right_yes ⟨fun j e he => H.out.1 j e (by have := (List.getElem?_eq_some_iff.1 he).1; have := HLN.out; omega) he, fun j e f he hf => H.out.2.1 j e f (by have := (List.getElem?_eq_some_iff.1 hf).1; have := HLN.out; omega) he hf⟩)
   go_wp2
   go_ret
   exact ⟨by rw [HF.out]; rfl, H.out.2.2⟩
theorem Dc.fnd_at {L : List EnD} {k : Nat} {e : EnD} (h : L[k]? = some e) (s : List UInt8) (a : Int) : Dc.fnd s k (L.drop k) a = Dc.fnd s (k + 1) (L.drop (k + 1)) (if Dc.le e.t s then (k : Int) else a) := by
 rw [tok_drop h, Dc.fnd]
theorem Dc.has_neg {L : List EnD} {s : List UInt8} {a : Int} (h : Dc.at_ L s = a) (ha : ¬ 0 ≤ a) : Dc.has L s = false := by
 unfold Dc.has Dc.hasAt
 rw [h, decide_eq_false ha, Bool.false_and]
theorem Dc.has_pos {L : List EnD} {s : List UInt8} {m : Nat} {f : EnD} (h : Dc.at_ L s = (m : Int)) (hf : L[m]? = some f) : Dc.has L s = decide (f.t = s) := by
 unfold Dc.has Dc.hasAt
 rw [h, decide_eq_true (by omega), Int.toNat_natCast, hf, Bool.true_and]
 by_cases e : f.t = s
 · rw [decide_eq_true e, decide_eq_true (by rw [Option.map_some, e])]
 · rw [decide_eq_false e, decide_eq_false (fun g => e (by injection g))]
def FindPost (L : List EnD) (s : List UInt8) (w : World) (e : Ending) (w' : World) : Prop := e = .returned (.tuple #[.int .i64 (Dc.at_ L s), .bool (Dc.has L s)]) ∧ Below w.heap.size w w' 
theorem dfind_any (A : Option Addr) (n c : Nat) (L : List EnD) (s : List UInt8) (w : World) (hs : InEs w A n c L) (hl : ∀ e ∈ L, e.t.length ≤ 200) (ht : Ut.UTabs w) (hr : Dc.right L = true) : Calls Tryz.prog 28 #[.slice A n c, sv s] w (FindPost L s w) := by
 have hm := hs.q.max
 have hcap := hs.q.cap
 have hlen := hs.q.len
 rw [maxLen_eq] at hm
 have HS := Lib.hid hs
 have HLN := Lib.hid hlen
 have CR := dright_any A n c L w hs hl ht
 rw [hr] at CR
 unfold RetB at CR
 have CR := Lib.hid CR
 clear hs hlen hl hr ht
 go_enter Tryz.func28, Tryz.ntmps28
 go_wp2_with fail
 (with_reducible refine CR.out.mono ?_)
 rintro v w1 ⟨rfl, hb1⟩
 have HB1 := Lib.hid hb1
 clear hb1 CR
 go_wp2
 go_loopw [6, 14] (fun va vi wr => ∃ (k : Nat) (a : Int), va = .int .i64 a ∧ vi = .int .i64 (k : Int) ∧ k ≤ n ∧ -1 ≤ a ∧ a < k ∧ Hid (Dc.at_ L s = Dc.fnd s k (L.drop k) a ∧ Below w.heap.size w wr)) (fun _ vi _ => n - (intOf vi).toNat)
 case atStart => exact ⟨0, -1, rfl, rfl, by omega, by omega, by omega, Lib.hid ⟨rfl, HB1.out⟩⟩
 case round =>
  obtain ⟨k, a, rfl, rfl, hk, ha1, ha2, H⟩ := hrel
  by_cases hlt : k < n
  ·
   obtain ⟨b, off, e, rfl, hb, he, hin, hcs⟩ := enc1_cells HS.out hlt
   obtain ⟨x0, x1⟩ := hcs wr H.out.2
   have HST := Dc.fnd_at he s a
   clear hcs he hin
   rcases Dc.lt_tri e.t s with ho | ho | ho
   ·
    obtain ⟨o1, o2⟩ := ord_lt ho
    rw [show Dc.le e.t s = true from Dc.le_iff.2 (Dc.lt_no ho), if_pos rfl] at HST
    have HN := Lib.hid (H.out.1.trans HST)
    clear HST ho
    go_upto_region 7 with fail
    have hbx : Below wr.heap.size wr (wr.alloc (.cells #[sv e.t, .slice e.a e.n e.c] 63)) := (Below.refl _ wr).alloc (Nat.le_refl _) _
    have hrx := row_new wr #[sv e.t, .slice e.a e.n e.c] 63
    obtain ⟨wy, hwy⟩ : ∃ wy, wr.alloc (.cells #[sv e.t, .slice e.a e.n e.c] 63) = wy := ⟨_, rfl⟩
    rw [hwy] at hbx hrx ⊢
    have HBY := Lib.hid (bt H.out.2 hbx)
    have y0 := hrx.cellQ 0 _ rfl
    clear hbx hrx hwy x0 x1
    go_wp2
    go_roundw
    case rel => exact ⟨k + 1, (k : Int), rfl, by go_num, by omega, by omega, by omega, Lib.hid ⟨HN.out, HBY.out⟩⟩
    case measure => simp [intOf]; omega
   ·
    obtain ⟨o1, o2⟩ := (show Op.bytesLess (str e.t).toList (str s).toList = false ∧ ((str e.t).toList == (str s).toList) = true by rw [ho]; exact ord_eq s)
    rw [show Dc.le e.t s = true from Dc.le_iff.2 (by rw [ho]; exact Dc.lt_irr _), if_pos rfl] at HST
    have HN := Lib.hid (H.out.1.trans HST)
    clear HST ho
    go_upto_region 7 with fail
    have hbx : Below wr.heap.size wr (wr.alloc (.cells #[sv e.t, .slice e.a e.n e.c] 63)) := (Below.refl _ wr).alloc (Nat.le_refl _) _
    have hrx := row_new wr #[sv e.t, .slice e.a e.n e.c] 63
    obtain ⟨wy, hwy⟩ : ∃ wy, wr.alloc (.cells #[sv e.t, .slice e.a e.n e.c] 63) = wy := ⟨_, rfl⟩
    rw [hwy] at hbx hrx ⊢
    have HBY := Lib.hid (bt H.out.2 hbx)
    have y0 := hrx.cellQ 0 _ rfl
    clear hbx hrx hwy x0 x1
    go_wp2
    go_roundw
    case rel => exact ⟨k + 1, (k : Int), rfl, by go_num, by omega, by omega, by omega, Lib.hid ⟨HN.out, HBY.out⟩⟩
    case measure => simp [intOf]; omega
   ·
    obtain ⟨o1, o2⟩ := ord_gt ho
    rw [show Dc.le e.t s = false from by cases h : Dc.le e.t s with | false => rfl | true => exact absurd ho (Dc.le_iff.1 h), if_neg (by decide)] at HST
    have HN := Lib.hid (H.out.1.trans HST)
    clear HST ho
    go_upto_region 7 with fail
    have hbx : Below wr.heap.size wr (wr.alloc (.cells #[sv e.t, .slice e.a e.n e.c] 63)) := (Below.refl _ wr).alloc (Nat.le_refl _) _
    have hrx := row_new wr #[sv e.t, .slice e.a e.n e.c] 63
    obtain ⟨wy, hwy⟩ : ∃ wy, wr.alloc (.cells #[sv e.t, .slice e.a e.n e.c] 63) = wy := ⟨_, rfl⟩
    rw [hwy] at hbx hrx ⊢
    have HBY := Lib.hid (bt H.out.2 hbx)
    have y0 := hrx.cellQ 0 _ rfl
    clear hbx hrx hwy x0 x1
    go_wp2
    go_roundw
    case rel => exact ⟨k + 1, a, rfl, by go_num, by omega, by omega, by omega, Lib.hid ⟨HN.out, HBY.out⟩⟩
    case measure => simp [intOf]; omega
  ·
   obtain rfl : k = n := by omega
   have hat : Dc.at_ L s = a := by rw [H.out.1, List.drop_of_length_le (by rw [HLN.out]; exact Nat.le_refl _)]; rfl
   by_cases hp : 0 ≤ a
   ·
    obtain ⟨m, rfl⟩ := Int.eq_ofNat_of_zero_le hp
    obtain ⟨b, off, f, rfl, hb, hf, hin, hcs⟩ := enc1_cells HS.out (show m < k by omega)
    obtain ⟨x0, x1⟩ := hcs wr H.out.2
    have hh := Dc.has_pos hat hf
    have HAT := Lib.hid hat
    have hp' : (0 : Int) ≤ (m : Int) := hp
    clear hcs hf hin hat
    have hq := strEq f.t s
    rw [← hh] at hq
    clear hh
    cases hz : Dc.has L s with
    | true =>
     rw [hz] at hq
     have HZ := Lib.hid hz
     clear hz
     go_wp2_with fail
     go_quiet (fail)
     go_wp2
     go_ret2
     exact ⟨by rw [HAT.out, HZ.out]; rfl, (H.out.2.trans (bel_drewN _ _ _))⟩
    | false =>
     rw [hz] at hq
     have HZ := Lib.hid hz
     clear hz
     go_wp2_with fail
     go_quiet (fail)
     go_wp2
     go_ret2
     exact ⟨by rw [HAT.out, HZ.out]; rfl, (H.out.2.trans (bel_drewN _ _ _))⟩
   ·
    have HZ := Lib.hid (Dc.has_neg hat hp)
    obtain rfl : a = -1 := by omega
    have HAT := Lib.hid hat
    clear hat
    go_wp2_with fail
    go_quiet (fail)
    go_wp2
    go_ret2
    exact ⟨by rw [HAT.out, HZ.out]; rfl, (H.out.2.trans (bel_drewN _ _ _))⟩
theorem rdfind_any (A : Option Addr) (n c : Nat) (L : List EnD) (s : List UInt8) (w : World) (hs : InEs w A n c L) (hl : ∀ e ∈ L, e.t.length ≤ 200) (hr : Dc.right L = true) : Calls Tryz.prog 38 #[.slice A n c, sv s] w (FindPost L s w) := by
 have hm := hs.q.max
 have hcap := hs.q.cap
 have hlen := hs.q.len
 rw [maxLen_eq] at hm
 have HS := Lib.hid hs
 have HLN := Lib.hid hlen
 have CR := rdright_any A n c L w hs hl
 rw [hr] at CR
 unfold RetB at CR
 have CR := Lib.hid CR
 clear hs hlen hl hr
 go_enter Tryz.func38, Tryz.ntmps38
 go_wp2_with fail
 (with_reducible refine CR.out.mono ?_)
 rintro v w1 ⟨rfl, hb1⟩
 have HB1 := Lib.hid hb1
 clear hb1 CR
 go_wp2
 go_loopw [6, 7] (fun va vi wr => ∃ (k : Nat) (a : Int), va = .int .i64 a ∧ vi = .int .i64 (k : Int) ∧ k ≤ n ∧ -1 ≤ a ∧ a < k ∧ Hid (Dc.at_ L s = Dc.fnd s k (L.drop k) a ∧ Below w.heap.size w wr)) (fun _ vi _ => n - (intOf vi).toNat)
 case atStart => exact ⟨0, -1, rfl, rfl, by omega, by omega, by omega, Lib.hid ⟨rfl, HB1.out⟩⟩
 case round =>
  obtain ⟨k, a, rfl, rfl, hk, ha1, ha2, H⟩ := hrel
  by_cases hlt : k < n
  ·
   obtain ⟨b, off, e, rfl, hb, he, hin, hcs⟩ := enc1_cells HS.out hlt
   obtain ⟨x0, x1⟩ := hcs wr H.out.2
   have HST := Dc.fnd_at he s a
   clear hcs he hin
   rcases Dc.lt_tri e.t s with ho | ho | ho
   ·
    obtain ⟨o1, o2⟩ := ord_lt ho
    rw [show Dc.le e.t s = true from Dc.le_iff.2 (Dc.lt_no ho), if_pos rfl] at HST
    have HN := Lib.hid (H.out.1.trans HST)
    clear HST ho
    go_wp2
    go_roundw
    case rel => exact ⟨k + 1, (k : Int), rfl, by go_num, by omega, by omega, by omega, Lib.hid ⟨HN.out, H.out.2⟩⟩
    case measure => simp [intOf]; omega
   ·
    obtain ⟨o1, o2⟩ := (show Op.bytesLess (str e.t).toList (str s).toList = false ∧ ((str e.t).toList == (str s).toList) = true by rw [ho]; exact ord_eq s)
    rw [show Dc.le e.t s = true from Dc.le_iff.2 (by rw [ho]; exact Dc.lt_irr _), if_pos rfl] at HST
    have HN := Lib.hid (H.out.1.trans HST)
    clear HST ho
    go_wp2
    go_roundw
    case rel => exact ⟨k + 1, (k : Int), rfl, by go_num, by omega, by omega, by omega, Lib.hid ⟨HN.out, H.out.2⟩⟩
    case measure => simp [intOf]; omega
   ·
    obtain ⟨o1, o2⟩ := ord_gt ho
    rw [show Dc.le e.t s = false from by cases h : Dc.le e.t s with | false => rfl | true => exact absurd ho (Dc.le_iff.1 h), if_neg (by decide)] at HST
    have HN := Lib.hid (H.out.1.trans HST)
    clear HST ho
    go_wp2
    go_roundw
    case rel => exact ⟨k + 1, a, rfl, by go_num, by omega, by omega, by omega, Lib.hid ⟨HN.out, H.out.2⟩⟩
    case measure => simp [intOf]; omega
  ·
   obtain rfl : k = n := by omega
   have hat : Dc.at_ L s = a := by rw [H.out.1, List.drop_of_length_le (by rw [HLN.out]; exact Nat.le_refl _)]; rfl
   by_cases hp : 0 ≤ a
   ·
    obtain ⟨m, rfl⟩ := Int.eq_ofNat_of_zero_le hp
    obtain ⟨b, off, f, rfl, hb, hf, hin, hcs⟩ := enc1_cells HS.out (show m < k by omega)
    obtain ⟨x0, x1⟩ := hcs wr H.out.2
    have hh := Dc.has_pos hat hf
    have HAT := Lib.hid hat
    have hp' : (0 : Int) ≤ (m : Int) := hp
    clear hcs hf hin hat
    have hq := strEq f.t s
    rw [← hh] at hq
    clear hh
    cases hz : Dc.has L s with
    | true =>
     rw [hz] at hq
     have HZ := Lib.hid hz
     clear hz
     go_wp2_with fail
     go_quiet (fail)
     go_wp2
     go_ret2
     exact ⟨by rw [HAT.out, HZ.out]; rfl, (H.out.2.trans (bel_drewN _ _ _))⟩
    | false =>
     rw [hz] at hq
     have HZ := Lib.hid hz
     clear hz
     go_wp2_with fail
     go_quiet (fail)
     go_wp2
     go_ret2
     exact ⟨by rw [HAT.out, HZ.out]; rfl, (H.out.2.trans (bel_drewN _ _ _))⟩
   ·
    have HZ := Lib.hid (Dc.has_neg hat hp)
    obtain rfl : a = -1 := by omega
    have HAT := Lib.hid hat
    clear hat
    go_wp2_with fail
    go_quiet (fail)
    go_wp2
    go_ret2
    exact ⟨by rw [HAT.out, HZ.out]; rfl, (H.out.2.trans (bel_drewN _ _ _))⟩
def ZsPost (l : List Int) (w : World) (e : Ending) (w' : World) : Prop := ∃ A n c, e = .returned (.slice A n c) ∧ Zs w' A n c l ∧ Below w.heap.size w w'
theorem cloneZ_any (A : Option Addr) (n c : Nat) (l : List Int) (w : World) (h : Zs w A n c l) (hn : n ≤ 1000000) : Calls Tryz.prog 78 #[.slice A n c] w (ZsPost l w) := by
 have hcp := h.cap
 have hmx := h.max
 have hln := h.len
 rw [maxLen_eq] at hmx
 have e1 := Lib.run_eql_slice_nil (P := Tryz.prog) w 43 3 A n c 0 0 Tryz.underlying43
 cases A with
 | none =>
  have HZ := Lib.hid (show Zs w none 0 0 l from by
   have h0 : l = [] := Classical.byContradiction fun hne => by
    obtain ⟨b, off, e, _⟩ := h.rd (by simpa using hne)
    cases e
   rw [h0]; exact Zs.nil w)
  have HH := Lib.hid h
  clear h
  go_enter Tryz.func78, Tryz.ntmps78
  go_wp2
  go_ret
  exact ⟨_, _, _, rfl, HZ.out, Below.refl _ _⟩
 | some a =>
  have HH := Lib.hid h
  have HLN := Lib.hid hln
  clear h hln
  go_enter Tryz.func78, Tryz.ntmps78
  go_wp2_with (first
   | (at_builtin; refine wl_app rfl (.tmp 5) (.tmp 6) 43 rfl w.heap.size 3 1 8 intsT _ 0 [] rfl (own_empty w 3 1 (Nat.le_refl _)) w.heap.size (some a) n c (l.map iv) rfl (HH.out.rd.alloc (Nat.le_refl _) _) (by simpa using HH.out.len) (fun u hu => by obtain ⟨z, _, rfl⟩ := List.mem_map.1 hu; rfl) (by rw [maxLen_eq]; omega) (by omega) (by unfold World.alloc; simp) ?_; intro A1 k1 w3 hown1 hg1 hat1 hb1 hc1 hc2; simp only [Nat.zero_add, List.nil_append] at hown1 hc1; have HR3 := Lib.hid (And.intro hown1 (And.intro hc1 hc2)); have HB3 := Lib.hid (((Below.refl w.heap.size w).alloc (Nat.le_refl _) _).trans hb1); clear hg1 hat1 hb1 hown1 hc1 hc2))
  go_ret
  exact ⟨A1, n, k1, rfl, ⟨Rd.of_own HR3.out.1, HLN.out, HR3.out.2.1, HR3.out.2.2, HH.out.wf⟩, HB3.out⟩
theorem ddocs_any (A : Option Addr) (n c : Nat) (L : List EnD) (s : List UInt8) (w : World) (hs : InEs w A n c L) (hl : ∀ e ∈ L, e.t.length ≤ 200 ∧ e.l.length ≤ 200) (ht : Ut.UTabs w) (hr : Dc.right L = true) : Calls Tryz.prog 33 #[.slice A n c, sv s] w (ZsPost (Dc.docs L s) w) := by
 have hm := hs.q.max
 have hcap := hs.q.cap
 rw [maxLen_eq] at hm
 have HS := Lib.hid hs
 have HL := Lib.hid hl
 have CF := dfind_any A n c L s w hs (fun e he => (hl e he).1) ht hr
 unfold FindPost at CF
 cases hh : Dc.has L s with
 | false =>
  have HD := Lib.hid (show Dc.docs L s = [] by unfold Dc.docs; rw [hh]; rfl)
  rw [hh] at CF
  have CF := Lib.hid CF
  clear hs hl hr hh ht
  go_enter Tryz.func33, Tryz.ntmps33
  go_wp2_with fail
  (with_reducible refine CF.out.mono ?_)
  rintro v w1 ⟨rfl, hb1⟩
  have HB1 := Lib.hid hb1
  clear hb1 CF
  go_wp2
  go_ret
  exact ⟨none, 0, 0, rfl, by rw [HD.out]; exact Zs.nil _, HB1.out⟩
 | true =>
  obtain ⟨k, e, hat, he, het, hde⟩ := Dc.hasAt_some hh
  obtain ⟨b, off, e', rfl, hb, he', hin, hcs⟩ := enc1_cells hs (show k < n by have := (List.getElem?_eq_some_iff.1 he).1; have := hs.q.len; omega)
  obtain rfl : e = e' := by rw [he] at he'; injection he'
  rw [hh, hat] at CF
  have CF := Lib.hid CF
  have HC := Lib.hid hcs
  have HD := Lib.hid hde
  have HIN := Lib.hid hin
  have HLL := Lib.hid (hl e (List.mem_of_getElem? he)).2
  have HLN := Lib.hid hin.z.len
  have hk : (k : Int) < (n : Int) := by have := (List.getElem?_eq_some_iff.1 he).1; have := hs.q.len; omega
  clear hs hl hr hh hat he he' het hde hin hcs ht
  go_enter Tryz.func33, Tryz.ntmps33
  go_wp2_with fail
  (with_reducible refine CF.out.mono ?_)
  rintro v w1 ⟨rfl, hb1⟩
  have HB1 := Lib.hid hb1
  have x1 := (HC.out w1 hb1).2
  clear hb1 CF
  have CC := Lib.hid (cloneZ_any e.a e.n e.c e.l w1 (HIN.out.z.keep HB1.out) (by rw [← HLN.out]; exact Nat.le_trans HLL.out (by decide)))
  unfold ZsPost at CC
  go_wp2_with fail
  (with_reducible refine CC.out.mono ?_)
  rintro v w2 ⟨A', n', c', rfl, hz, hb2⟩
  have HZ := Lib.hid hz
  have HB2 := Lib.hid (bt HB1.out hb2)
  clear hz hb2 CC x1
  go_wp2
  go_ret
  exact ⟨A', n', c', rfl, by rw [HD.out]; exact HZ.out, HB2.out⟩
theorem rddocs_any (A : Option Addr) (n c : Nat) (L : List EnD) (s : List UInt8) (w : World) (hs : InEs w A n c L) (hl : ∀ e ∈ L, e.t.length ≤ 200 ∧ e.l.length ≤ 200) (hr : Dc.right L = true) : Calls Tryz.prog 24 #[.slice A n c, sv s] w (ZsPost (Dc.docs L s) w) := by
 have hm := hs.q.max
 have hcap := hs.q.cap
 rw [maxLen_eq] at hm
 have HS := Lib.hid hs
 have HL := Lib.hid hl
 have CF := rdfind_any A n c L s w hs (fun e he => (hl e he).1) hr
 unfold FindPost at CF
 cases hh : Dc.has L s with
 | false =>
  have HD := Lib.hid (show Dc.docs L s = [] by unfold Dc.docs; rw [hh]; rfl)
  rw [hh] at CF
  have CF := Lib.hid CF
  clear hs hl hr hh
  go_enter Tryz.func24, Tryz.ntmps24
  go_wp2_with fail
  (with_reducible refine CF.out.mono ?_)
  rintro v w1 ⟨rfl, hb1⟩
  have HB1 := Lib.hid hb1
  clear hb1 CF
  go_wp2
  go_ret
  exact ⟨none, 0, 0, rfl, by rw [HD.out]; exact Zs.nil _, HB1.out⟩
 | true =>
  obtain ⟨k, e, hat, he, het, hde⟩ := Dc.hasAt_some hh
  obtain ⟨b, off, e', rfl, hb, he', hin, hcs⟩ := enc1_cells hs (show k < n by have := (List.getElem?_eq_some_iff.1 he).1; have := hs.q.len; omega)
  obtain rfl : e = e' := by rw [he] at he'; injection he'
  rw [hh, hat] at CF
  have CF := Lib.hid CF
  have HC := Lib.hid hcs
  have HD := Lib.hid hde
  have HIN := Lib.hid hin
  have HLL := Lib.hid (hl e (List.mem_of_getElem? he)).2
  have HLN := Lib.hid hin.z.len
  have hk : (k : Int) < (n : Int) := by have := (List.getElem?_eq_some_iff.1 he).1; have := hs.q.len; omega
  clear hs hl hr hh hat he he' het hde hin hcs
  go_enter Tryz.func24, Tryz.ntmps24
  go_wp2_with fail
  (with_reducible refine CF.out.mono ?_)
  rintro v w1 ⟨rfl, hb1⟩
  have HB1 := Lib.hid hb1
  have x1 := (HC.out w1 hb1).2
  clear hb1 CF
  go_wp2
  go_ret
  exact ⟨e.a, e.n, e.c, rfl, by rw [HD.out]; exact HIN.out.z.keep HB1.out, HB1.out⟩
end Go.Proofs.YteoledjllpgcbaaGreatDoor
