/- MTermC: several texts of this claim in one file. No statement of the seat is proved here. -/
import Derived.Test.YteoledjllpgcbaaGreatDoorMTermB
namespace Go.Proofs.YteoledjllpgcbaaGreatDoor
set_option maxRecDepth 100000
set_option maxHeartbeats 64000000
set_option linter.unusedVariables false
open Go.RowKit
def Dc.greatP (p : Hd.Pf) : Bool := decide (200 < p.link.term.length) || (decide (200 < p.link.next.length) || (decide (200 < p.link.posts.length) || (decide (3000 < p.docs.length) || Tree.great p.path)))
theorem Dc.greatP_no {p : Hd.Pf} (h : Dc.greatP p = false) : (p.link.term.length ≤ 200 ∧ p.link.next.length ≤ 200 ∧ p.link.posts.length ≤ 200) ∧ p.docs.length ≤ 3000 ∧ (∀ s ∈ p.path, s.length ≤ 100) ∧ p.path.length ≤ 100 := by
 unfold Dc.greatP at h
 rw [Bool.or_eq_false_iff, Bool.or_eq_false_iff, Bool.or_eq_false_iff, Bool.or_eq_false_iff, decide_eq_false_iff_not, decide_eq_false_iff_not, decide_eq_false_iff_not, decide_eq_false_iff_not] at h
 obtain ⟨h1, h2, h3, h4, h5⟩ := h
 exact ⟨⟨by omega, by omega, by omega⟩, by omega, Tree.great_no h5⟩
theorem great11_any (Ap : Option Addr) (np cp : Nat) (Ad : Option Addr) (nd cd : Nat) (p : Hd.Pf) (w : World) (hp : Ss w Ap np cp p.path) (hpw : ∀ d ∈ p.path, d.length ≤ maxLen) (hd : p.docs.length = nd) :
  Calls Tryz.prog 15 #[pfv Ap np cp Ad nd cd p] w (RetB (Dc.greatP p) w) := by
 obtain ⟨w0, hw0⟩ : ∃ W, w.alloc (.cells #[.int .i64 p.at_, sv p.link.term, sv p.link.next, sv p.link.posts, .slice Ap np cp, .slice Ad nd cd] 30) = W := ⟨_, rfl⟩
 have hb0 := (Below.refl w.heap.size w).alloc (Nat.le_refl _) (.cells #[.int .i64 p.at_, sv p.link.term, sv p.link.next, sv p.link.posts, .slice Ap np cp, .slice Ad nd cd] 30)
 have hr0 := row_new w #[.int .i64 p.at_, sv p.link.term, sv p.link.next, sv p.link.posts, .slice Ap np cp, .slice Ad nd cd] 30
 rw [hw0] at hb0 hr0
 have HW0 := Lib.hid hw0
 have HB0 := Lib.hid hb0
 have HR0 := Lib.hid hr0
 have x1 := hr0.cellQ 1 _ rfl
 have x2 := hr0.cellQ 2 _ rfl
 have x3 := hr0.cellQ 3 _ rfl
 have x4 := hr0.cellQ 4 _ rfl
 have x5 := hr0.cellQ 5 _ rfl
 have CG := great6_any Ap np cp p.path w0 (hp.keep hb0) hpw
 have z1 := strLen p.link.term
 have z2 := strLen p.link.next
 have z3 := strLen p.link.posts
 clear hw0 hb0 hr0 hp hpw
 unfold pfv
 obtain ⟨q1, hq1⟩ : ∃ q, p.link.term.length = q := ⟨_, rfl⟩
 obtain ⟨q2, hq2⟩ : ∃ q, p.link.next.length = q := ⟨_, rfl⟩
 obtain ⟨q3, hq3⟩ : ∃ q, p.link.posts.length = q := ⟨_, rfl⟩
 rw [hq1] at z1
 rw [hq2] at z2
 rw [hq3] at z3
 by_cases h0 : 200 < q1
 ·
  have a0 : (200 : Int) < (q1 : Int) := by omega
  have HF := Lib.hid (show Dc.greatP p = true from by unfold Dc.greatP; rw [hd]; rw [hq1, hq2, hq3, decide_eq_true h0]; simp)
  clear CG hd hq1 hq2 hq3 h0
  go_enter Tryz.func15, Tryz.ntmps15
  go_upto_region 1 with fail
  rw [HW0.out]
  go_wp2
  go_ret
  exact ⟨by rw [HF.out]; rfl, HB0.out⟩
 have a0 : ¬ (200 : Int) < (q1 : Int) := by omega
 by_cases h1 : 200 < q2
 ·
  have a1 : (200 : Int) < (q2 : Int) := by omega
  have HF := Lib.hid (show Dc.greatP p = true from by unfold Dc.greatP; rw [hd]; rw [hq1, hq2, hq3, decide_eq_false h0, decide_eq_true h1]; simp)
  clear CG hd hq1 hq2 hq3 h0 h1
  go_enter Tryz.func15, Tryz.ntmps15
  go_upto_region 1 with fail
  rw [HW0.out]
  go_wp2
  go_ret
  exact ⟨by rw [HF.out]; rfl, HB0.out⟩
 have a1 : ¬ (200 : Int) < (q2 : Int) := by omega
 by_cases h2 : 200 < q3
 ·
  have a2 : (200 : Int) < (q3 : Int) := by omega
  have HF := Lib.hid (show Dc.greatP p = true from by unfold Dc.greatP; rw [hd]; rw [hq1, hq2, hq3, decide_eq_false h0, decide_eq_false h1, decide_eq_true h2]; simp)
  clear CG hd hq1 hq2 hq3 h0 h1 h2
  go_enter Tryz.func15, Tryz.ntmps15
  go_upto_region 1 with fail
  rw [HW0.out]
  go_wp2
  go_ret
  exact ⟨by rw [HF.out]; rfl, HB0.out⟩
 have a2 : ¬ (200 : Int) < (q3 : Int) := by omega
 by_cases h3 : 3000 < nd
 ·
  have a3 : (3000 : Int) < (nd : Int) := by omega
  have HF := Lib.hid (show Dc.greatP p = true from by unfold Dc.greatP; rw [hd]; rw [hq1, hq2, hq3, decide_eq_false h0, decide_eq_false h1, decide_eq_false h2, decide_eq_true h3]; simp)
  clear CG hd hq1 hq2 hq3 h0 h1 h2 h3
  go_enter Tryz.func15, Tryz.ntmps15
  go_upto_region 1 with fail
  rw [HW0.out]
  go_wp2
  go_ret
  exact ⟨by rw [HF.out]; rfl, HB0.out⟩
 have a3 : ¬ (3000 : Int) < (nd : Int) := by omega
 cases hg : Tree.great p.path with
 | true =>
  rw [hg] at CG
  have HF := Lib.hid (show Dc.greatP p = true from by unfold Dc.greatP; rw [hd]; rw [hq1, hq2, hq3, decide_eq_false h0, decide_eq_false h1, decide_eq_false h2, decide_eq_false h3, hg]; rfl)
  have CG := Lib.hid CG
  clear hd hg hq1 hq2 hq3 h0 h1 h2 h3
  go_enter Tryz.func15, Tryz.ntmps15
  go_upto_region 1 with fail
  rw [HW0.out]
  go_wp2_with fail
  (with_reducible refine CG.out.mono ?_)
  rintro e w1 ⟨rfl, rfl⟩
  go_wp2
  go_ret
  exact ⟨by rw [HF.out]; rfl, HB0.out⟩
 | false =>
  rw [hg] at CG
  have HF := Lib.hid (show Dc.greatP p = false from by unfold Dc.greatP; rw [hd]; rw [hq1, hq2, hq3, decide_eq_false h0, decide_eq_false h1, decide_eq_false h2, decide_eq_false h3, hg]; rfl)
  have CG := Lib.hid CG
  clear hd hg hq1 hq2 hq3 h0 h1 h2 h3
  go_enter Tryz.func15, Tryz.ntmps15
  go_upto_region 1 with fail
  rw [HW0.out]
  go_wp2_with fail
  (with_reducible refine CG.out.mono ?_)
  rintro e w1 ⟨rfl, rfl⟩
  go_wp2
  go_ret
  exact ⟨by rw [HF.out]; rfl, HB0.out⟩
structure Dc.Kn (L : List EnD) (e1 e2 : EnD) : Prop where
 eq : L = [e1, e2]
 t1 : e1.t = [104, 97, 121]
 l1 : e1.l = [0, 1]
 t2 : e2.t = [119, 97, 105, 110]
 l2 : e2.l = [1]
theorem Dc.tk_hay : Tok.right [104, 97, 121] = true := by decide +kernel
theorem Dc.tk_ox : Tok.right [111, 120] = true := by decide +kernel
theorem Dc.tk_wain : Tok.right [119, 97, 105, 110] = true := by decide +kernel
theorem Dc.kn_good {L : List EnD} {e1 e2 : EnD} (h : Dc.Kn L e1 e2) : Dc.Good L := by
 have p1 : Post.right [0, 1] = true := by decide
 have p2 : Post.right [1] = true := by decide
 refine ⟨fun k e he => ?_, fun k e f he hf => ?_⟩
 ·
  rw [h.eq] at he
  match k, he with
  | 0, he =>
   simp only [List.getElem?_cons_zero, Option.some.injEq] at he
   subst he
   exact Dc.okE_iff.2 ⟨by rw [h.l1]; simp, by rw [h.l1]; exact p1, by rw [h.t1]; exact Dc.tk_hay⟩
  | 1, he =>
   simp only [List.getElem?_cons_succ, List.getElem?_cons_zero, Option.some.injEq] at he
   subst he
   exact Dc.okE_iff.2 ⟨by rw [h.l2]; simp, by rw [h.l2]; exact p2, by rw [h.t2]; exact Dc.tk_wain⟩
  | k + 2, he => simp at he
 ·
  rw [h.eq] at he hf
  match k, he, hf with
  | 0, he, hf =>
   simp only [List.getElem?_cons_succ, List.getElem?_cons_zero, Option.some.injEq] at he hf
   subst he hf
   rw [h.t1, h.t2]
   decide
  | k + 1, he, hf => simp at hf
theorem Dc.kn_hay {L : List EnD} {e1 e2 : EnD} (h : Dc.Kn L e1 e2) : Dc.at_ L [104, 97, 121] = 0 ∧ Dc.has L [104, 97, 121] = true ∧ Dc.docs L [104, 97, 121] = [0, 1] := by
 have := Dc.has_at (Dc.kn_good h) (j := 0) (e := e1) (by rw [h.eq]; rfl)
 rw [h.t1, h.l1] at this
 exact this
theorem Dc.kn_ox {L : List EnD} {e1 e2 : EnD} (h : Dc.Kn L e1 e2) : Dc.at_ L [111, 120] = 0 ∧ Dc.has L [111, 120] = false ∧ Dc.docs L [111, 120] = [] := by
 have h1 : Dc.at_ L [111, 120] = 0 := by
  unfold Dc.at_
  rw [h.eq, Dc.fnd, Dc.fnd, Dc.fnd, h.t1, h.t2]
  decide
 have h2 : Dc.has L [111, 120] = false := by
  unfold Dc.has Dc.hasAt
  rw [h1, h.eq]
  simp [h.t1]
 exact ⟨h1, h2, by unfold Dc.docs; rw [h2]; rfl⟩
theorem Dc.kn_write : Post.write [0, 1] = [2, 0, 0] := by
 unfold Post.write
 rw [Post.gapsFrom, Post.gapsFrom, Post.gapsFrom]
 rw [Code.num_lt (by decide), Code.num_lt (by decide), Code.num_lt (by decide)]
 decide
theorem Dc.kn_p {L : List EnD} {e1 e2 : EnD} (h : Dc.Kn L e1 e2) : (Dc.prove L [104, 97, 121]).at_ = 1 ∧ (Dc.prove L [104, 97, 121]).docs = [2, 0, 0] := by
 obtain ⟨h1, h2, h3⟩ := Dc.kn_hay h
 have hk : Dc.atN L [104, 97, 121] = 1 := by unfold Dc.atN; rw [h1]; rfl
 unfold Dc.prove
 exact ⟨by rw [hk]; rfl, by rw [h2, h3, if_pos rfl, Dc.kn_write]⟩
theorem Dc.kn_q {L : List EnD} {e1 e2 : EnD} (h : Dc.Kn L e1 e2) : (Dc.prove L [111, 120]).at_ = 1 ∧ (Dc.prove L [111, 120]).docs = [] := by
 obtain ⟨h1, h2, h3⟩ := Dc.kn_ox h
 have hk : Dc.atN L [111, 120] = 1 := by unfold Dc.atN; rw [h1]; rfl
 unfold Dc.prove
 exact ⟨by rw [hk]; rfl, by rw [h2]; rfl⟩
theorem Dc.kn_a {L : List EnD} {e1 e2 : EnD} (h : Dc.Kn L e1 e2) : Dc.check (Dc.root L) 3 [104, 97, 121] (Dc.prove L [104, 97, 121]) = some [0, 1] := by
 have := Dc.prove_check (Dc.kn_good h) Dc.tk_hay
 rw [(Dc.kn_hay h).2.2, h.eq] at this
 rw [h.eq]
 exact this
theorem Dc.kn_b {L : List EnD} {e1 e2 : EnD} (h : Dc.Kn L e1 e2) : Dc.check (Dc.root L) 3 [111, 120] (Dc.prove L [111, 120]) = some [] := by
 have := Dc.prove_check (Dc.kn_good h) Dc.tk_ox
 rw [(Dc.kn_ox h).2.2, h.eq] at this
 rw [h.eq]
 exact this
theorem Dc.kn_i {L : List EnD} {e1 e2 : EnD} (h : Dc.Kn L e1 e2) : Dc.check (Dc.root L) 3 [119, 97, 105, 110] (Dc.prove L [104, 97, 121]) = none := by
 obtain ⟨h1, h2, h3⟩ := Dc.kn_hay h
 have hk : Dc.atN L [104, 97, 121] = 1 := by unfold Dc.atN; rw [h1]; rfl
 have e1' : (Dc.prove L [104, 97, 121]).link.term = [104, 97, 121] := by
  show (Dc.linkAt L (Dc.atN L [104, 97, 121])).term = _
  rw [hk]
  show Dc.enT L 0 = _
  rw [Dc.enT_some (e := e1) (by rw [h.eq]; rfl), h.t1]
 have e2' : (Dc.prove L [104, 97, 121]).link.next = [119, 97, 105, 110] := by
  show (Dc.linkAt L (Dc.atN L [104, 97, 121])).next = _
  rw [hk]
  show Dc.enT L 1 = _
  rw [Dc.enT_some (e := e2) (by rw [h.eq]; rfl), h.t2]
 unfold Dc.check
 split
 ·
  unfold Dc.says
  rw [e1', e2', if_neg (by decide), if_neg]
  rintro ⟨_, g, _⟩
  rcases g with g | g
  · exact Dc.lt_irr _ g
  · cases g
 · rfl
theorem Dc.kn_fair {L : List EnD} (s : List UInt8) (h : Tok.right s = true) : Dc.fairC (Dc.root L) 3 s = true := Dc.fairC_iff.2 ⟨troot_len (Cl.lv_all _), by omega, by omega, h⟩
theorem Dc.prove_small (L : List EnD) (s : List UInt8) : (∀ d ∈ (Dc.prove L s).path, d.length ≤ maxLen) := fun d hd => by
 have := tpath_all (Cl.lv_all (Dc.links L)) _ d hd
 rw [this, maxLen_eq]; omega
theorem knows11_any (w : World) (ht : Ut.UTabs w) (htt : Tabs w) : Calls Tryz.prog 8 #[] w (Yes w) := by
 obtain ⟨g, hg⟩ : ∃ g, w.heap.size = g := ⟨_, rfl⟩
 obtain ⟨w1, hw1⟩ : ∃ W, w.alloc (.cells #[.int .i64 0, .int .i64 1] 3) = W := ⟨_, rfl⟩
 have hb1 := (Below.refl w.heap.size w).alloc (Nat.le_refl _) (.cells #[.int .i64 0, .int .i64 1] 3)
 have hr1 := row_new w #[.int .i64 0, .int .i64 1] 3
 have hz1 : w1.heap.size = g + 1 := by rw [← hw1, ← hg]; unfold World.alloc; simp
 rw [hw1] at hb1 hr1
 rw [hg] at hr1
 obtain ⟨w2, hw2⟩ : ∃ W, w1.alloc (.cells #[.int .i64 1] 3) = W := ⟨_, rfl⟩
 have hb2 := (Below.refl w1.heap.size w1).alloc (Nat.le_refl _) (.cells #[.int .i64 1] 3)
 have hr2 := row_new w1 #[.int .i64 1] 3
 have hz2 : w2.heap.size = g + 2 := by rw [← hw2, show g + 2 = w1.heap.size + 1 by omega]; unfold World.alloc; simp
 rw [hw2] at hb2 hr2
 rw [hz1] at hr2
 obtain ⟨w3, hw3⟩ : ∃ W, w2.alloc (.cells #[.string { data := #[104, 97, 121] }, .slice (some ⟨g, 0, none⟩) 2 2, .string { data := #[119, 97, 105, 110] }, .slice (some ⟨g + 1, 0, none⟩) 1 1] 63) = W := ⟨_, rfl⟩
 have hb3 := (Below.refl w2.heap.size w2).alloc (Nat.le_refl _) (.cells #[.string { data := #[104, 97, 121] }, .slice (some ⟨g, 0, none⟩) 2 2, .string { data := #[119, 97, 105, 110] }, .slice (some ⟨g + 1, 0, none⟩) 1 1] 63)
 have hr3 := row_new w2 #[.string { data := #[104, 97, 121] }, .slice (some ⟨g, 0, none⟩) 2 2, .string { data := #[119, 97, 105, 110] }, .slice (some ⟨g + 1, 0, none⟩) 1 1] 63
 rw [hw3] at hb3 hr3
 rw [hz2] at hr3
 have hr13 := (hr1.belowS hb2 (Nat.le_refl _)).belowS hb3 (Nat.le_refl _)
 have hr23 := hr2.belowS hb3 (Nat.le_refl _)
 have hb03 : Below w.heap.size w w3 := bt (bt hb1 hb2) hb3
 obtain ⟨e1, he1⟩ : ∃ e : EnD, e = ⟨[104, 97, 121], some ⟨g, 0, none⟩, 2, 2, [0, 1]⟩ := ⟨_, rfl⟩
 obtain ⟨e2, he2⟩ : ∃ e : EnD, e = ⟨[119, 97, 105, 110], some ⟨g + 1, 0, none⟩, 1, 1, [1]⟩ := ⟨_, rfl⟩
 have hkn : Dc.Kn [e1, e2] e1 e2 := by subst he1 he2; exact ⟨rfl, rfl, rfl, rfl, rfl⟩
 have hin : InEs w3 (some ⟨g + 2, 0, none⟩) 2 2 [e1, e2] := by
  subst he1 he2
  have m2 : (2 : Nat) ≤ maxLen := by rw [maxLen_eq]; omega
  refine ⟨⟨rd_of_addr (x := ⟨g + 2, 0, none⟩) hr3.lt fun i v hv => ?_, rfl, Nat.le_refl _, m2⟩, fun d hd => ?_⟩
  ·
   match i, hv with
   | 0, hv => simp [enc1] at hv; subst hv; exact hr3.cellQ 0 _ rfl
   | 1, hv => simp [enc1] at hv; subst hv; exact hr3.cellQ 1 _ rfl
   | 2, hv => simp [enc1] at hv; subst hv; exact hr3.cellQ 2 _ rfl
   | 3, hv => simp [enc1] at hv; subst hv; exact hr3.cellQ 3 _ rfl
   | i + 4, hv => simp [enc1] at hv
  ·
   simp only [List.mem_cons, List.not_mem_nil, or_false] at hd
   rcases hd with rfl | rfl
   ·
    refine ⟨⟨rd_of_addr (x := ⟨g, 0, none⟩) hr13.lt fun i v hv => ?_, rfl, Nat.le_refl _, m2, fun z hz => ?_⟩, by simp [maxLen_eq]⟩
    ·
     match i, hv with
     | 0, hv => simp [iv] at hv; subst hv; exact hr13.cellQ 0 _ rfl
     | 1, hv => simp [iv] at hv; subst hv; exact hr13.cellQ 1 _ rfl
     | i + 2, hv => simp at hv
    ·
     simp only [List.mem_cons, List.not_mem_nil, or_false] at hz
     rcases hz with rfl | rfl <;> omega
   ·
    refine ⟨⟨rd_of_addr (x := ⟨g + 1, 0, none⟩) hr23.lt fun i v hv => ?_, rfl, Nat.le_refl _, Nat.le_trans (show (1 : Nat) ≤ 2 by omega) m2, fun z hz => ?_⟩, by simp [maxLen_eq]⟩
    ·
     match i, hv with
     | 0, hv => simp [iv] at hv; subst hv; exact hr23.cellQ 0 _ rfl
     | i + 1, hv => simp at hv
    ·
     simp only [List.mem_cons, List.not_mem_nil, or_false] at hz
     rcases hz with rfl <;> omega
 have hll : ∀ e ∈ [e1, e2], e.t.length ≤ 200 ∧ e.l.length ≤ 200 := fun e he => by
  subst he1 he2
  simp only [List.mem_cons, List.not_mem_nil, or_false] at he
  rcases he with rfl | rfl <;> exact ⟨by simp, by simp⟩
 have HW := Lib.hid (And.intro hw1 (And.intro hw2 hw3))
 have HB3 := Lib.hid hb03
 have HIN := Lib.hid hin
 have HLL := Lib.hid hll
 have HKN := Lib.hid hkn
 have HGD := Lib.hid (Dc.right_yes (Dc.kn_good hkn))
 have HT := Lib.hid (ht.below hb03)
 have HTT := Lib.hid (htt.below hb03)
 obtain ⟨L, hL⟩ : ∃ L, [e1, e2] = L := ⟨_, rfl⟩
 rw [hL] at HIN HLL HKN HGD
 clear hw1 hw2 hw3 hb1 hb2 hb3 hr1 hr2 hr3 hz1 hz2 hr13 hr23 hb03 he1 he2 hkn hin hll ht htt hL
 have C1 := Lib.hid (droot_yes (some ⟨g + 2, 0, none⟩) 2 2 L w3 HIN.out (fun e he => (HLL.out e he).1) (by omega) HT.out HTT.out HGD.out)
 have C2 := Lib.hid (fun (W : World) (hW : Below w3.heap.size w3 W) => (show Calls Tryz.prog 9 #[.slice (some ⟨g + 2, 0, none⟩) 2 2, .string { data := #[104, 97, 121] }] W (ProvePost L [104, 97, 121] W) from tprove_yes (some ⟨g + 2, 0, none⟩) 2 2 L [104, 97, 121] W (HIN.out.keep hW) HLL.out (by omega) (by decide) (HT.out.below hW) (HTT.out.below hW) HGD.out Dc.tk_hay))
 have C3 := Lib.hid (fun (W : World) (hW : Below w3.heap.size w3 W) => (show Calls Tryz.prog 9 #[.slice (some ⟨g + 2, 0, none⟩) 2 2, .string { data := #[111, 120] }] W (ProvePost L [111, 120] W) from tprove_yes (some ⟨g + 2, 0, none⟩) 2 2 L [111, 120] W (HIN.out.keep hW) HLL.out (by omega) (by decide) (HT.out.below hW) (HTT.out.below hW) HGD.out Dc.tk_ox))
 unfold ProvePost at C2 C3
 obtain ⟨rt, hrt⟩ : ∃ r, Dc.root L = r := ⟨_, rfl⟩
 rw [hrt] at C1
 have HRT := Lib.hid hrt
 clear hrt
 go_enter Tryz.func8, Tryz.ntmps8
 go_upto_region 2 with fail
 try rw [hg]
 rw [HW.out.1, HW.out.2.1, HW.out.2.2]
 clear hg
 go_wp2_with fail
 (with_reducible refine C1.out.mono ?_)
 rintro e w4 ⟨rfl, hb4⟩
 have HB4 := Lib.hid hb4
 clear hb4 C1
 go_wp2_with fail
 (with_reducible refine (C2.out _ HB4.out).mono ?_)
 rintro e w5 ⟨d1, hd1, rfl, hi1, hb5⟩
 have HB5 := Lib.hid (bt HB4.out hb5)
 have HD1 := Lib.hid hd1
 have HI1 := Lib.hid hi1
 clear hb5 hd1 hi1 C2
 unfold pfv
 go_upto_region 4 with fail
 have hbx : Below w5.heap.size w5 (w5.alloc (.cells #[.int .i64 d1.p.at_, sv d1.p.link.term, sv d1.p.link.next, sv d1.p.link.posts, .slice d1.ap d1.np d1.cp, .slice d1.ad d1.nd d1.cd] 30)) := (Below.refl _ w5).alloc (Nat.le_refl _) _
 have hrx := row_new w5 #[.int .i64 d1.p.at_, sv d1.p.link.term, sv d1.p.link.next, sv d1.p.link.posts, .slice d1.ap d1.np d1.cp, .slice d1.ad d1.nd d1.cd] 30
 obtain ⟨w6, hwx⟩ : ∃ W, w5.alloc (.cells #[.int .i64 d1.p.at_, sv d1.p.link.term, sv d1.p.link.next, sv d1.p.link.posts, .slice d1.ap d1.np d1.cp, .slice d1.ad d1.nd d1.cd] 30) = W := ⟨_, rfl⟩
 obtain ⟨ga, hgx⟩ : ∃ g, w5.heap.size = g := ⟨_, rfl⟩
 rw [hwx] at hbx hrx ⊢
 have HB6 := Lib.hid (bt HB5.out hbx)
 have HX6 := Lib.hid hbx
 rw [hgx] at hrx ⊢
 have HRa := Lib.hid hrx
 clear hbx hrx hwx hgx
 go_wp2_with fail
 (with_reducible refine (C3.out _ HB6.out).mono ?_)
 rintro e w7 ⟨d2, hd2, rfl, hi2, hb7⟩
 have HB7 := Lib.hid (bt HB6.out hb7)
 have HX7 := Lib.hid (bt HX6.out hb7)
 have HD2 := Lib.hid hd2
 have HI2 := Lib.hid hi2
 have HRa7 := Lib.hid (HRa.out.belowS hb7 (Nat.le_refl _))
 clear hb7 hd2 hi2 C3
 unfold pfv
 go_upto_region 5 with fail
 have hbx : Below w7.heap.size w7 (w7.alloc (.cells #[.int .i64 d2.p.at_, sv d2.p.link.term, sv d2.p.link.next, sv d2.p.link.posts, .slice d2.ap d2.np d2.cp, .slice d2.ad d2.nd d2.cd] 30)) := (Below.refl _ w7).alloc (Nat.le_refl _) _
 have hrx := row_new w7 #[.int .i64 d2.p.at_, sv d2.p.link.term, sv d2.p.link.next, sv d2.p.link.posts, .slice d2.ap d2.np d2.cp, .slice d2.ad d2.nd d2.cd] 30
 obtain ⟨w8, hwx⟩ : ∃ W, w7.alloc (.cells #[.int .i64 d2.p.at_, sv d2.p.link.term, sv d2.p.link.next, sv d2.p.link.posts, .slice d2.ap d2.np d2.cp, .slice d2.ad d2.nd d2.cd] 30) = W := ⟨_, rfl⟩
 obtain ⟨gb, hgx⟩ : ∃ g, w7.heap.size = g := ⟨_, rfl⟩
 rw [hwx] at hbx hrx ⊢
 have HB8 := Lib.hid (bt HB7.out hbx)
 have HX8 := Lib.hid hbx
 rw [hgx] at hrx ⊢
 have HRb := Lib.hid hrx
 clear hbx hrx hwx hgx
 have HRa8 := Lib.hid (HRa7.out.belowS HX8.out (Nat.le_refl _))
 have HIa := Lib.hid (fun (W : World) (hW : Below w8.heap.size w8 W) => HI1.out.keep (bt (bt HX7.out HX8.out) hW))
 have HIb := Lib.hid (fun (W : World) (hW : Below w8.heap.size w8 W) => HI2.out.keep (bt HX8.out hW))
 have HP1 := Lib.hid (Dc.kn_p HKN.out)
 have HP2 := Lib.hid (Dc.kn_q HKN.out)
 have hat1 : d1.p.at_ = 1 := by rw [HD1.out]; exact HP1.out.1
 have hat2 : d2.p.at_ = 1 := by rw [HD2.out]; exact HP2.out.1
 have HA1 := Lib.hid hat1
 have HA2 := Lib.hid hat2
 have HN1 := Lib.hid (show d1.nd = 3 by rw [← HI1.out.b.len, HD1.out, HP1.out.2]; rfl)
 have HN2 := Lib.hid (show d2.nd = 0 by rw [← HI2.out.b.len, HD2.out, HP2.out.2]; rfl)
 clear hat1 hat2
 have K1 := Lib.hid (fun (W : World) (hW : Below w8.heap.size w8 W) => (show Calls Tryz.prog 16 #[sv rt, .int .i64 3, .string { data := #[104, 97, 121] }, pfv d1.ap d1.np d1.cp d1.ad d1.nd d1.cd d1.p] W (CheckPost (some [0, 1]) W) from by
  have h := tcheck_any rt 3 [104, 97, 121] d1.ap d1.np d1.cp d1.ad d1.nd d1.cd d1.p W (by decide) (HIa.out W hW).s (by rw [HD1.out]; exact Dc.prove_small L _) (HIa.out W hW).b (by rw [HN1.out]; decide) (by rw [HA1.out]; decide) (HT.out.below (bt HB8.out hW)) (HTT.out.below (bt HB8.out hW)) (by rw [← HRT.out]; exact Dc.kn_fair _ Dc.tk_hay)
  rw [← HRT.out, HD1.out, Dc.kn_a HKN.out] at h
  rw [← HRT.out, HD1.out]
  exact h))
 unfold pfv CheckPost at K1
 have K2 := Lib.hid (fun (W : World) (hW : Below w8.heap.size w8 W) => (show Calls Tryz.prog 16 #[sv rt, .int .i64 3, .string { data := #[111, 120] }, pfv d2.ap d2.np d2.cp d2.ad d2.nd d2.cd d2.p] W (CheckPost (some []) W) from by
  have h := tcheck_any rt 3 [111, 120] d2.ap d2.np d2.cp d2.ad d2.nd d2.cd d2.p W (by decide) (HIb.out W hW).s (by rw [HD2.out]; exact Dc.prove_small L _) (HIb.out W hW).b (by rw [HN2.out]; decide) (by rw [HA2.out]; decide) (HT.out.below (bt HB8.out hW)) (HTT.out.below (bt HB8.out hW)) (by rw [← HRT.out]; exact Dc.kn_fair _ Dc.tk_ox)
  rw [← HRT.out, HD2.out, Dc.kn_b HKN.out] at h
  rw [← HRT.out, HD2.out]
  exact h))
 unfold pfv CheckPost at K2
 have K3 := Lib.hid (fun (W : World) (hW : Below w8.heap.size w8 W) => (show Calls Tryz.prog 16 #[sv rt, .int .i64 3, .string { data := #[119, 97, 105, 110] }, pfv d1.ap d1.np d1.cp d1.ad d1.nd d1.cd d1.p] W (CheckPost (none) W) from by
  have h := tcheck_any rt 3 [119, 97, 105, 110] d1.ap d1.np d1.cp d1.ad d1.nd d1.cd d1.p W (by decide) (HIa.out W hW).s (by rw [HD1.out]; exact Dc.prove_small L _) (HIa.out W hW).b (by rw [HN1.out]; decide) (by rw [HA1.out]; decide) (HT.out.below (bt HB8.out hW)) (HTT.out.below (bt HB8.out hW)) (by rw [← HRT.out]; exact Dc.kn_fair _ Dc.tk_wain)
  rw [← HRT.out, HD1.out, Dc.kn_i HKN.out] at h
  rw [← HRT.out, HD1.out]
  exact h))
 unfold pfv CheckPost at K3
 have x0 := HRa8.out.cellQ 0 _ rfl
 have x1 := HRa8.out.cellQ 1 _ rfl
 have x2 := HRa8.out.cellQ 2 _ rfl
 have x3 := HRa8.out.cellQ 3 _ rfl
 have x4 := HRa8.out.cellQ 4 _ rfl
 have x5 := HRa8.out.cellQ 5 _ rfl
 go_wp2_with fail
 (with_reducible refine (K1.out _ (Below.refl _ _)).mono ?_)
 rintro e w9 ⟨hb9, A9, n9, c9, rfl, hz9⟩
 have HB9 := Lib.hid hb9
 have HZ9 := Lib.hid hz9
 clear hb9 hz9 K1 x0 x1 x2 x3 x4 x5
 have hrq := HRb.out.belowS HB9.out (Nat.le_refl _)
 have x0 := hrq.cellQ 0 _ rfl
 have x1 := hrq.cellQ 1 _ rfl
 have x2 := hrq.cellQ 2 _ rfl
 have x3 := hrq.cellQ 3 _ rfl
 have x4 := hrq.cellQ 4 _ rfl
 have x5 := hrq.cellQ 5 _ rfl
 clear hrq
 go_wp2_with fail
 (with_reducible refine (K2.out _ HB9.out).mono ?_)
 rintro e w10 ⟨hb10, A10, n10, c10, rfl, hz10⟩
 have HB10 := Lib.hid (bt HB9.out hb10)
 have HZ9' := Lib.hid (HZ9.out.keep hb10)
 have hn10 : n10 = 0 := hz10.len.symm
 subst hn10
 clear hb10 hz10 K2 x0 x1 x2 x3 x4 x5
 have hrq := HRa8.out.belowS HB10.out (Nat.le_refl _)
 have x0 := hrq.cellQ 0 _ rfl
 have x1 := hrq.cellQ 1 _ rfl
 have x2 := hrq.cellQ 2 _ rfl
 have x3 := hrq.cellQ 3 _ rfl
 have x4 := hrq.cellQ 4 _ rfl
 have x5 := hrq.cellQ 5 _ rfl
 clear hrq
 go_wp2_with fail
 (with_reducible refine (K3.out _ HB10.out).mono ?_)
 rintro e w11 ⟨hb11, rfl⟩
 have HB11 := Lib.hid (bt HB10.out hb11)
 have HZ11 := Lib.hid (HZ9'.out.keep hb11)
 clear hb11 K3 x0 x1 x2 x3 x4 x5
 go_upto_region 8 with fail
 have hrq := HRa8.out.belowS HB11.out (Nat.le_refl _)
 have x0 := hrq.cellQ 0 _ rfl
 have x5 := hrq.cellQ 5 _ rfl
 have hrp := HRb.out.belowS HB11.out (Nat.le_refl _)
 have y0 := hrp.cellQ 0 _ rfl
 have y5 := hrp.cellQ 5 _ rfl
 clear hrq hrp
 have hbs := (HIa.out w11 HB11.out).b
 have hdc : d1.p.docs = [2, 0, 0] := by rw [HD1.out]; exact HP1.out.2
 rw [hdc] at hbs
 have HBS := Lib.hid hbs
 have hn1 := HN1.out
 have hn2 := HN2.out
 have ha1 := HA1.out
 have ha2 := HA2.out
 rw [ha1] at x0
 rw [ha2] at y0
 rw [hn2] at y5
 have hq : ((str [2, 0, 0]).toList == (⟨#[2, 0, 0]⟩ : ByteArray).toList) = true := by
  have := strEq [2, 0, 0] [2, 0, 0]
  rw [decide_eq_true rfl] at this
  exact this
 have hq2 : (str [2, 0, 0]).toList = [2, 0, 0] := str_toList _
 have hq3 : (⟨#[2, 0, 0]⟩ : ByteArray).toList = [2, 0, 0] := str_toList [2, 0, 0]
 clear hbs hdc hn1 hn2 ha1 ha2
 go_wp2_with (first
  | (refine wl_of (by simp [Region.wanted, yielded]) fun K hK => wp_str 28 9 (.tmp 57) rfl 5 Tryz.underlying28 Tryz.underlying5 Tryz.underlying9 d1.ad _ d1.cd rfl w11.heap.size [2, 0, 0] HBS.out.rd HBS.out.len (hK _ _ ?_)))
 have hb12 := (Below.refl w11.heap.size w11).alloc (Nat.le_refl _) (.cells #[.int .i64 0, .int .i64 1] 3)
 have hr12 := row_new w11 #[.int .i64 0, .int .i64 1] 3
 obtain ⟨w12, hw12⟩ : ∃ W, w11.alloc (.cells #[.int .i64 0, .int .i64 1] 3) = W := ⟨_, rfl⟩
 obtain ⟨gz, hgz⟩ : ∃ q, w11.heap.size = q := ⟨_, rfl⟩
 rw [hw12] at hb12 hr12 ⊢
 rw [hgz] at hr12 ⊢
 have hz12 : Zs w12 (some ⟨gz, 0, none⟩) 2 2 [0, 1] := by
  refine ⟨rd_of_addr (x := ⟨gz, 0, none⟩) hr12.lt fun i v hv => ?_, rfl, Nat.le_refl _, by rw [maxLen_eq]; omega, fun z hz => ?_⟩
  ·
   match i, hv with
   | 0, hv => simp [iv] at hv; subst hv; exact hr12.cellQ 0 _ rfl
   | 1, hv => simp [iv] at hv; subst hv; exact hr12.cellQ 1 _ rfl
   | i + 2, hv => simp at hv
  ·
   simp only [List.mem_cons, List.not_mem_nil, or_false] at hz
   rcases hz with rfl | rfl <;> omega
 have CS := sameZ_any A9 n9 c9 [0, 1] (some ⟨gz, 0, none⟩) 2 2 [0, 1] w12 (HZ11.out.keep hb12) hz12
 rw [decide_eq_true rfl] at CS
 unfold RetB at CS
 have CS := Lib.hid CS
 have HB12 := Lib.hid (bt HB3.out (bt HB8.out (bt HB11.out hb12)))
 clear hb12 hr12 hw12 hgz hz12
 (with_reducible refine CS.out.mono ?_)
 rintro e w13 ⟨rfl, hb13⟩
 have HB13 := Lib.hid (bt HB12.out hb13)
 clear hb13 CS
 go_wp2
 go_ret
 exact ⟨rfl, HB13.out⟩
end Go.Proofs.YteoledjllpgcbaaGreatDoor
