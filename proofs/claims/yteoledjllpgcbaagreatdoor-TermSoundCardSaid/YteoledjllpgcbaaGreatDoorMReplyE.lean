/- MReplyE: several texts of this claim in one file. No statement of the seat is proved here. -/
import Derived.Test.YteoledjllpgcbaaGreatDoorMReplyD
namespace Go.Proofs.YteoledjllpgcbaaGreatDoor
set_option maxRecDepth 100000
set_option maxHeartbeats 64000000
set_option linter.unusedVariables false
open Go.RowKit
namespace Hd
structure Lk where
 term : By
 next : By
 posts : By
def Lk.may (k : Lk) : Bool := decide (k.term.length ≤ 64) && (decide (k.next.length ≤ 64) && decide (k.posts.length = 32))
def Lk.bytes (k : Lk) : By := (Code.text k.term ++ Code.text k.next) ++ k.posts
def Lk.wr (k : Lk) : Option By := if k.may = true then some k.bytes else none
end Hd
theorem rmay_any (k : Hd.Lk) (w : World) : Calls Tryz.prog 49 #[.agg #[sv k.term, sv k.next, sv k.posts]] w (RetB k.may w) := by
 have h1 := row_new w #[sv k.term, sv k.next, sv k.posts] 36
 have hb := (Below.refl w.heap.size w).alloc (Nat.le_refl _) (.cells #[sv k.term, sv k.next, sv k.posts] 36)
 obtain ⟨w1, hw1⟩ : ∃ W, w.alloc (.cells #[sv k.term, sv k.next, sv k.posts] 36) = W := ⟨_, rfl⟩
 rw [hw1] at h1 hb
 have HW1 := Lib.hid hw1
 have HR0 := Lib.hid h1
 have HB0 := Lib.hid hb
 have x0 := h1.cellQ 0 _ rfl
 have x1 := h1.cellQ 1 _ rfl
 have x2 := h1.cellQ 2 _ rfl
 have z0 : (str k.term).size = k.term.length := strLen _
 have z1 : (str k.next).size = k.next.length := strLen _
 have z2 : (str k.posts).size = k.posts.length := strLen _
 clear hw1 h1 hb
 by_cases h0 : k.term.length ≤ 64
 ·
  have a0 : ¬ (64 : Int) < (k.term.length : Int) := by omega
  have b0 : (k.term.length : Int) ≤ 64 := by omega
  by_cases h1 : k.next.length ≤ 64
  ·
   have a1 : ¬ (64 : Int) < (k.next.length : Int) := by omega
   have b1 : (k.next.length : Int) ≤ 64 := by omega
   by_cases h2 : k.posts.length = 32
   ·
    have a2 : ((k.posts.length : Int) == 32) = true := by rw [h2]; rfl
    have b2 : (k.posts.length : Int) = 32 := by omega
    have HE := Lib.hid (show k.may = true by unfold Hd.Lk.may; simp [*])
    go_enter Tryz.func49, Tryz.ntmps49
    go_upto_region 1 with fail
    rw [HW1.out]
    go_wp2
    go_ret
    rw [HE.out]
    exact ⟨rfl, HB0.out⟩
   ·
    have a2 : ((k.posts.length : Int) == 32) = false := beq_eq_false_iff_ne.2 (by omega)
    have b2 : ¬ (k.posts.length : Int) = 32 := by omega
    have HE := Lib.hid (show k.may = false by unfold Hd.Lk.may; simp [*])
    go_enter Tryz.func49, Tryz.ntmps49
    go_upto_region 1 with fail
    rw [HW1.out]
    go_wp2
    go_ret
    rw [HE.out]
    exact ⟨rfl, HB0.out⟩
  ·
   have a1 : (64 : Int) < (k.next.length : Int) := by omega
   have b1 : ¬ (k.next.length : Int) ≤ 64 := by omega
   have HE := Lib.hid (show k.may = false by unfold Hd.Lk.may; simp [*])
   go_enter Tryz.func49, Tryz.ntmps49
   go_upto_region 1 with fail
   rw [HW1.out]
   go_wp2
   go_ret
   rw [HE.out]
   exact ⟨rfl, HB0.out⟩
 ·
  have a0 : (64 : Int) < (k.term.length : Int) := by omega
  have b0 : ¬ (k.term.length : Int) ≤ 64 := by omega
  have HE := Lib.hid (show k.may = false by unfold Hd.Lk.may; simp [*])
  go_enter Tryz.func49, Tryz.ntmps49
  go_upto_region 1 with fail
  rw [HW1.out]
  go_wp2
  go_ret
  rw [HE.out]
  exact ⟨rfl, HB0.out⟩
theorem wlink_any (k : Hd.Lk) (w : World) : Calls Tryz.prog 45 #[.agg #[sv k.term, sv k.next, sv k.posts]] w (WPost k.wr w) := by
 have h1 := row_new w #[sv k.term, sv k.next, sv k.posts] 26
 have hb := (Below.refl w.heap.size w).alloc (Nat.le_refl _) (.cells #[sv k.term, sv k.next, sv k.posts] 26)
 obtain ⟨w1, hw1⟩ : ∃ W, w.alloc (.cells #[sv k.term, sv k.next, sv k.posts] 26) = W := ⟨_, rfl⟩
 rw [hw1] at h1 hb
 have HW1 := Lib.hid hw1
 have HR0 := Lib.hid h1
 have HB0 := Lib.hid hb
 have x0 := h1.cellQ 0 _ rfl
 have x1 := h1.cellQ 1 _ rfl
 have x2 := h1.cellQ 2 _ rfl
 have z0 : (str k.term).size = k.term.length := strLen _
 have z1 : (str k.next).size = k.next.length := strLen _
 have z2 : (str k.posts).size = k.posts.length := strLen _
 clear hw1 h1 hb
 by_cases h0 : k.term.length ≤ 64
 ·
  have a0 : ¬ (64 : Int) < (k.term.length : Int) := by omega
  have b0 : (k.term.length : Int) ≤ 64 := by omega
  by_cases h1 : k.next.length ≤ 64
  ·
   have a1 : ¬ (64 : Int) < (k.next.length : Int) := by omega
   have b1 : (k.next.length : Int) ≤ 64 := by omega
   by_cases h2 : k.posts.length = 32
   ·
    have a2 : ((k.posts.length : Int) == 32) = true := by rw [h2]; rfl
    have b2 : (k.posts.length : Int) = 32 := by omega
    have HE := Lib.hid (show k.wr = some k.bytes by unfold Hd.Lk.wr Hd.Lk.may; simp [*])
    have t0 := text_len k.term (by omega)
    have t1 := text_len k.next (by omega)
    go_enter Tryz.func45, Tryz.ntmps45
    go_upto_region 1 with fail
    rw [HW1.out]
    go_wp2_with fail
    (with_reducible refine (text_any none 0 0 [] k.term w1 (Bs.nil _) (by omega) (by omega)).mono ?_)
    rintro e w2 ⟨A2, n2, c2, rfl, ho2, hb2⟩
    rw [List.nil_append] at ho2
    have HB2 := Lib.hid (bt HB0.out hb2)
    have HR2 := Lib.hid (HR0.out.belowS hb2 (Nat.le_refl _))
    have HO2 := Lib.hid ho2
    have hl2 := ho2.len
    clear hb2 ho2 x0 x1 x2
    have x1 := HR2.out.cellQ 1 _ rfl
    go_wp2_with fail
    (with_reducible refine (text_any A2 n2 c2 (Code.text k.term) k.next w2 HO2.out.bs (by omega) (by omega)).mono ?_)
    rintro e w3 ⟨A3, n3, c3, rfl, ho3, hb3⟩
    have HB3 := Lib.hid (bt HB2.out hb3)
    have HR3 := Lib.hid (HR2.out.belowS hb3 (Nat.le_refl _))
    have HO3 := Lib.hid (ho3.base HB2.out.size)
    have hl3 := ho3.len
    rw [List.length_append] at hl3
    have hBB := HB3.out.size
    clear hb3 ho3 x1
    have x2 := HR3.out.cellQ 2 _ rfl
    go_wp2_with (at_builtin; refine wl_appS rfl (.tmp 28) (.tmp 30) rfl rfl HO3.out rfl (by omega) hBB ?_; intro A4 n4 c4 w4 ho4 hb4 hg4; have HP := Lib.hid (And.intro ho4 hb4); clear ho4 hb4 hg4)
    go_ret2
    rw [HE.out]
    exact ⟨A4, n4, c4, rfl, HP.out.1, HB3.out.trans HP.out.2⟩
   ·
    have a2 : ((k.posts.length : Int) == 32) = false := beq_eq_false_iff_ne.2 (by omega)
    have b2 : ¬ (k.posts.length : Int) = 32 := by omega
    have HE := Lib.hid (show k.wr = none by unfold Hd.Lk.wr Hd.Lk.may; simp [*])
    go_enter Tryz.func45, Tryz.ntmps45
    go_upto_region 1 with fail
    rw [HW1.out]
    go_wp2
    go_ret2
    rw [HE.out]
    exact ⟨rfl, HB0.out⟩
  ·
   have a1 : (64 : Int) < (k.next.length : Int) := by omega
   have b1 : ¬ (k.next.length : Int) ≤ 64 := by omega
   have HE := Lib.hid (show k.wr = none by unfold Hd.Lk.wr Hd.Lk.may; simp [*])
   go_enter Tryz.func45, Tryz.ntmps45
   go_upto_region 1 with fail
   rw [HW1.out]
   go_wp2
   go_ret2
   rw [HE.out]
   exact ⟨rfl, HB0.out⟩
 ·
  have a0 : (64 : Int) < (k.term.length : Int) := by omega
  have b0 : ¬ (k.term.length : Int) ≤ 64 := by omega
  have HE := Lib.hid (show k.wr = none by unfold Hd.Lk.wr Hd.Lk.may; simp [*])
  go_enter Tryz.func45, Tryz.ntmps45
  go_upto_region 1 with fail
  rw [HW1.out]
  go_wp2
  go_ret2
  rw [HE.out]
  exact ⟨rfl, HB0.out⟩
def Free.x8b (B : Nat) (l : List UInt8) : Free.SV := ⟨fun v w => ∃ A n c, v = .slice A n c ∧ Own8 w B A n c l, fun v w w' ⟨A, n, c, h1, h2⟩ g => ⟨A, n, c, h1, h2.keep g⟩⟩
theorem rwlink_any (k : Hd.Lk) (w : World) (h0 : k.term.length ≤ 10000) (h1 : k.next.length ≤ 10000) (h2 : k.posts.length ≤ 10000) : Calls Tryz.prog 54 #[.agg #[sv k.term, sv k.next, sv k.posts]] w (Ret8 w.heap.size k.bytes w) := by
 have h1 := row_new w #[sv k.term, sv k.next, sv k.posts] 36
 have hb := (Below.refl w.heap.size w).alloc (Nat.le_refl _) (.cells #[sv k.term, sv k.next, sv k.posts] 36)
 obtain ⟨w1, hw1⟩ : ∃ W, w.alloc (.cells #[sv k.term, sv k.next, sv k.posts] 36) = W := ⟨_, rfl⟩
 rw [hw1] at h1 hb
 have HW1 := Lib.hid hw1
 have HR0 := Lib.hid h1
 have HB0 := Lib.hid hb
 have x0 := h1.cellQ 0 _ rfl
 have x1 := h1.cellQ 1 _ rfl
 have x2 := h1.cellQ 2 _ rfl
 have z0 : (str k.term).size = k.term.length := strLen _
 have z1 : (str k.next).size = k.next.length := strLen _
 have z2 : (str k.posts).size = k.posts.length := strLen _
 clear hw1 h1 hb
 have HLT := Lib.hid HR0.out.lt
 have t0 := text_len k.term (by omega)
 have t1 := text_len k.next (by omega)
 clear x0 x1 x2 z0 z1 z2
 go_enter Tryz.func54, Tryz.ntmps54
 go_upto_region 1 with fail
 rw [HW1.out]
 refine FreeP.wp_app_l 9 6 w1.heap.size (fun W => Row W w.heap.size #[sv k.term, sv k.next, sv k.posts] 36 ∧ Below w.heap.size w W ∧ w1.heap.size ≤ W.heap.size) [.ac (.pointer (some ⟨w.heap.size, 0, none⟩)), .ac (sv k.term), .ad (Free.x8b (w1.heap.size) ((Code.text k.term))), .ac (.pointer (some ⟨w.heap.size, 1, none⟩)), .ac (sv k.next), .ad (Free.x8b (w1.heap.size) ((Code.text k.next))), .ac undef, .ac (.pointer (some ⟨w.heap.size, 2, none⟩)), .ac (sv k.posts)] (Free.x8b w1.heap.size (Code.text k.term ++ Code.text k.next)) (by kernel_rfl) (by kernel_rfl) (by decide) (by decide) ⟨HR0.out.drew, HB0.out.trans (bel_drew _ _), Nat.le_refl _⟩ (fun W W' h g => ⟨h.1.belowS g (Nat.le_refl _), bt h.2.1 g, Nat.le_trans h.2.2 g.size⟩) (fun W W' h g => ⟨h.1.below g HLT.out, h.2.1.trans (g.mono (Nat.le_of_lt HLT.out)), Nat.le_trans h.2.2 g.size⟩) ?_ ?_
 ·
  iterate 9 refine Free.forall_succ ?_ ?_
  all_goals first | exact Free.forall_zero | (refine Free.op fun vals wq hC hd => ?_) | skip
  · exact FreeP.oba_plain _ rfl rfl (by decide) fun dead vals wq hC hd => (by exact d_field (cx := .pointer (some ⟨w.heap.size, 0, none⟩)) rfl (by kernel_rfl) (by go_simp) rfl)
  · exact FreeP.oba_plain _ rfl rfl (by decide) fun dead vals wq hC hd => (by exact Free.d_load (cx := .pointer (some ⟨w.heap.size, 0, none⟩)) rfl (Free.tr 0 hd) (by have hcc := hC.1.cellQ 0 _ rfl; go_simp) rfl)
  · exact FreeP.oba_plain _ rfl rfl (by decide) fun dead vals wq hC hd => (by exact Free.d_call Tryz.func98 rfl rfl rfl rfl (Free.arg1 (Free.tr 1 hd)) ((rtext_any k.term wq (by omega)).mono fun e w2 ⟨a, b, c, he, ho, hb⟩ => ⟨_, he, .inr ⟨a, b, c, rfl, ho.base hC.2.2⟩, hb⟩))
  · exact FreeP.oba_plain _ rfl rfl (by decide) fun dead vals wq hC hd => (by exact d_field (cx := .pointer (some ⟨w.heap.size, 0, none⟩)) rfl (by kernel_rfl) (by go_simp) rfl)
  · exact FreeP.oba_plain _ rfl rfl (by decide) fun dead vals wq hC hd => (by exact Free.d_load (cx := .pointer (some ⟨w.heap.size, 1, none⟩)) rfl (Free.tr 3 hd) (by have hcc := hC.1.cellQ 1 _ rfl; go_simp) rfl)
  · exact FreeP.oba_plain _ rfl rfl (by decide) fun dead vals wq hC hd => (by exact Free.d_call Tryz.func98 rfl rfl rfl rfl (Free.arg1 (Free.tr 4 hd)) ((rtext_any k.next wq (by omega)).mono fun e w2 ⟨a, b, c, he, ho, hb⟩ => ⟨_, he, .inr ⟨a, b, c, rfl, ho.base hC.2.2⟩, hb⟩))
  · exact FreeP.oba_app _ rfl rfl fun vals wq hC hd => (by obtain ⟨A2, n2, k2, e2, ow2⟩ := (hd 2 (by kernel_rfl)).resolve_left (by simp); obtain ⟨A5, n5, k5, e5, ow5⟩ := (hd 5 (by kernel_rfl)).resolve_left (by simp); exact FreeP.s_app bytesT rfl (Eq.trans (b := vals 2) (by kernel_rfl) e2) ow2.own (Eq.trans (b := vals 5) (by kernel_rfl) e5) ow5.bs.rd (by simpa using ow5.bs.len) (one_b _) (by have := ow2.len; have := ow5.len; rw [maxLen_eq]; omega) (by have := ow2.len; have := ow5.len; omega) hC.2.2 (fun A9 c9 w9 h1 h2 h3 h4 h5 => ⟨⟨A9, _, c9, rfl, ⟨by rw [← List.map_append] at h1; exact h1, by rw [List.length_append, ow2.len, ow5.len], h4, h5⟩⟩, h3⟩))
  · exact FreeP.oba_plain _ rfl rfl (by decide) fun dead vals wq hC hd => (by exact d_field (cx := .pointer (some ⟨w.heap.size, 0, none⟩)) rfl (by kernel_rfl) (by go_simp) rfl)
  · exact FreeP.oba_plain _ rfl rfl (by decide) fun dead vals wq hC hd => (by exact Free.d_load (cx := .pointer (some ⟨w.heap.size, 2, none⟩)) rfl (Free.tr 7 hd) (by have hcc := hC.1.cellQ 2 _ rfl; go_simp) rfl)
 ·
  intro vals wq hC hd
  have e0 : vals 0 = _ := hd 0 (by decide)
  have e1 : vals 1 = _ := hd 1 (by decide)
  have e3 : vals 3 = _ := hd 3 (by decide)
  have e4 : vals 4 = _ := hd 4 (by decide)
  obtain ⟨A6, n6, k6, e6, ow6⟩ := hd 6 (by decide)
  have e7 : vals 7 = _ := hd 7 (by decide)
  have e8 : vals 8 = _ := hd 8 (by decide)
  simp only [Free.frameOf, List.range, List.range.loop, List.foldl, Free.dstOf, List.getElem?_toArray, List.getElem?_cons_zero, List.getElem?_cons_succ, Option.bind_some, Act.put, List.setIfInBounds_toArray, List.set_cons_zero, List.set_cons_succ, e0, e1, e3, e4, e6, e7, e8]
  clear hd e0 e1 e3 e4 e6 e7 e8
  have HC := Lib.hid hC
  have HO := Lib.hid ow6
  have hln := ow6.len
  rw [List.length_append] at hln
  have hBB := hC.2.2
  clear hC ow6
  refine wl_appS rfl (.tmp 9) (.tmp 11) rfl rfl HO.out rfl (by omega) hBB ?_
  intro A4 n4 c4 w4 ho4 hb4 hg4
  have HP := Lib.hid (And.intro ho4 hb4)
  clear ho4 hb4 hg4
  go_wp2
  go_ret
  exact ⟨A4, n4, c4, rfl, HP.out.1.base (Nat.le_of_lt HLT.out), HC.out.2.1.trans (HP.out.2.mono (Nat.le_of_lt HLT.out))⟩
namespace Hd
def rdLk (l : By) : Except Nat Lk :=
 if doneX l (stDig l (stText l 64 (stText l 64 ⟨0, 0⟩).1).1).1 ≠ 0 then .error (doneX l (stDig l (stText l 64 (stText l 64 ⟨0, 0⟩).1).1).1) else .ok ⟨(stText l 64 ⟨0, 0⟩).2, (stText l 64 (stText l 64 ⟨0, 0⟩).1).2, (stDig l (stText l 64 (stText l 64 ⟨0, 0⟩).1).1).2⟩
end Hd
def RLkPost (r : Except Nat Hd.Lk) (w : World) (e : Ending) (w' : World) : Prop := Below w.heap.size w w' ∧ match r with
 | .ok k => e = .returned (.tuple #[.agg #[sv k.term, sv k.next, sv k.posts], .int .i64 0])
 | .error x => e = .returned (.tuple #[.agg #[.string { data := #[] }, .string { data := #[] }, .string { data := #[] }], .int .i64 (x : Int)]) ∧ x ≠ 0
structure RlC (w W : World) (g gl gr : Nat) (l : List UInt8) (s : Hd.RS) (cs : Array Value) : Prop where
 rd : HRd W w.heap.size g l s
 rl : Row W gl cs 26
 rr : Row W gr #[.string { data := #[] }, .string { data := #[] }, .string { data := #[] }] 26
 bel : Below w.heap.size w W
 g0 : w.heap.size ≤ gl
 r0 : w.heap.size ≤ gr
 ne : gr ≠ gl
section
variable {w W W' : World} {g gl gr : Nat} {l : List UInt8} {s s' : Hd.RS} {cs : Array Value}
theorem RlC.keep (h : RlC w W g gl gr l s cs) (hb : Below W.heap.size W W') : RlC w W' g gl gr l s cs := ⟨h.rd.keep hb, h.rl.belowS hb (Nat.le_refl _), h.rr.belowS hb (Nat.le_refl _), bt h.bel hb, h.g0, h.r0, h.ne⟩
theorem RlC.turn (h : RlC w W g gl gr l s cs) (hr : HRd W' w.heap.size g l s') (hb : Below w.heap.size W W') (k : KeepTy SR W W') : RlC w W' g gl gr l s' cs := ⟨hr, h.rl.keepTy (by decide) k, h.rr.keepTy (by decide) k, h.bel.trans hb, h.g0, h.r0, h.ne⟩
theorem RlC.setL (h : RlC w W g gl gr l s cs) (hu : cs.toList.all notU8 = true) (j : Nat) (v : Value) : RlC w (W.setCell ⟨gl, j, none⟩ v) g gl gr l s (cs.setIfInBounds j v) := ⟨HRd.setF h.rd h.rl (by decide) hu (by decide) [v] j, h.rl.set j v, h.rr.far gl j v h.ne, h.bel.setCell (p := ⟨gl, j, none⟩) h.g0 v, h.g0, h.r0, h.ne⟩
end
theorem HRd.doneC {w : World} {B g : Nat} {l : List UInt8} {s : Hd.RS} {d : Nat} (h : HRd w B g l s) (e : Hd.doneX l s = d) : ∃ A c, Row w g #[.slice A l.length c, .int .i64 (s.at_ : Int), .int .i64 (s.x : Int)] 113 ∧ ∀ W, Calls Tryz.prog 71 #[.agg #[.slice A l.length c, .int .i64 (s.at_ : Int), .int .i64 (s.x : Int)]] W fun e w' => e = .returned (.int .i64 (d : Int)) ∧ Below W.heap.size W w' := by
 subst e
 obtain ⟨A, c, r, hbs⟩ := h.ex
 exact ⟨A, c, r, fun W => done_st A l.length c l s W rfl h.at_ hbs.bs.cap hbs.bs.max⟩
theorem rlink_any (A : Option Addr) (n c : Nat) (l : List UInt8) (w : World) (h : Bs w A n c l) (hn : l.length ≤ 1000000000) : Calls Tryz.prog 29 #[.slice A n c] w (RLkPost (Hd.rdLk l) w) := by
 obtain rfl : n = l.length := h.len.symm
 obtain ⟨⟨s1, v1⟩, hs1⟩ : ∃ r, Hd.stText l 64 ⟨0, 0⟩ = r := ⟨_, rfl⟩
 obtain ⟨⟨s2, v2⟩, hs2⟩ : ∃ r, Hd.stText l 64 s1 = r := ⟨_, rfl⟩
 obtain ⟨⟨s3, v3⟩, hs3⟩ : ∃ r, Hd.stDig l s2 = r := ⟨_, rfl⟩
 obtain ⟨dx, hdx⟩ : ∃ x, Hd.doneX l s3 = x := ⟨_, rfl⟩
 have HE := Lib.hid (show Hd.rdLk l = if dx ≠ 0 then .error dx else .ok ⟨v1, v2, v3⟩ by unfold Hd.rdLk; simp only [hs1, hs2, hs3, hdx])
 have HA1 := Lib.hid (fun (s : Hd.RS) (h : s.at_ ≤ l.length) (r : Hd.RS × List UInt8) (e : Hd.stText l 64 s = r) => show r.1.at_ ≤ l.length by rw [← e]; exact Hd.stText_at h)
 have HA3 := Lib.hid (fun (s : Hd.RS) (h : s.at_ ≤ l.length) (r : Hd.RS × List UInt8) (e : Hd.stDig l s = r) => show r.1.at_ ≤ l.length by rw [← e]; exact Hd.stDig_at h)
 have HS1 := Lib.hid hs1
 have HS2 := Lib.hid hs2
 have HS3 := Lib.hid hs3
 have HDX := Lib.hid hdx
 have hz : ∀ (v : World) (o : Obj), (v.alloc o).heap.size = v.heap.size + 1 := size_alloc
 have q0 := ((row_new w #[.string { data := #[] }, .string { data := #[] }, .string { data := #[] }] 26).alloc (.cells #[.string { data := #[] }, .string { data := #[] }, .string { data := #[] }] 26)).alloc (.cells #[.slice A l.length c, .int .i64 0, .int .i64 0] 113)
 have q1 := (row_new (w.alloc (.cells #[.string { data := #[] }, .string { data := #[] }, .string { data := #[] }] 26)) #[.string { data := #[] }, .string { data := #[] }, .string { data := #[] }] 26).alloc (.cells #[.slice A l.length c, .int .i64 0, .int .i64 0] 113)
 have q2 := row_new ((w.alloc (.cells #[.string { data := #[] }, .string { data := #[] }, .string { data := #[] }] 26)).alloc (.cells #[.string { data := #[] }, .string { data := #[] }, .string { data := #[] }] 26)) #[.slice A l.length c, .int .i64 0, .int .i64 0] 113
 rw [size_alloc] at q1
 rw [size_alloc, size_alloc] at q2
 have qb := (((Below.refl w.heap.size w).alloc (Nat.le_refl _) (.cells #[.string { data := #[] }, .string { data := #[] }, .string { data := #[] }] 26)).alloc (by rw [size_alloc]; omega) (.cells #[.string { data := #[] }, .string { data := #[] }, .string { data := #[] }] 26)).alloc (by rw [size_alloc, size_alloc]; omega) (.cells #[.slice A l.length c, .int .i64 0, .int .i64 0] 113)
 obtain ⟨w1, hw1⟩ : ∃ W, ((w.alloc (.cells #[.string { data := #[] }, .string { data := #[] }, .string { data := #[] }] 26)).alloc (.cells #[.string { data := #[] }, .string { data := #[] }, .string { data := #[] }] 26)).alloc (.cells #[.slice A l.length c, .int .i64 0, .int .i64 0] 113) = W := ⟨_, rfl⟩
 rw [hw1] at q0 q1 q2 qb
 have HW1 := Lib.hid hw1
 have hf : ∀ p, A = some p → l ≠ [] → p.block < w.heap.size := fun p hp hl => by
  obtain ⟨b, off, e, hb, _⟩ := h.rd (fun e => hl (by cases l with | nil => rfl | cons => cases e))
  rw [hp] at e; injection e with e; subst e; exact hb
 have HC0 := Lib.hid (show RlC w w1 (w.heap.size + 1 + 1) (w.heap.size + 1) w.heap.size l ⟨0, 0⟩ #[.string { data := #[] }, .string { data := #[] }, .string { data := #[] }] from ⟨⟨⟨A, c, q2, ⟨h.keep qb, fun p hp hl => by have := hf p hp hl; omega, .inl hf⟩⟩, by omega, Nat.zero_le _⟩, q1, q0, qb, by omega, Nat.le_refl _, by omega⟩)
 clear hs1 hs2 hs3 hdx q0 q1 q2 qb hw1 h hf hz
 rw [HE.out]
 obtain ⟨R, hR⟩ : ∃ R, (if dx ≠ 0 then .error dx else .ok ⟨v1, v2, v3⟩ : Except Nat Hd.Lk) = R := ⟨_, rfl⟩
 have HR := Lib.hid hR
 rw [hR]
 clear hR HE
 have hne1 : ¬ w.heap.size + 1 + 1 = w.heap.size + 1 := by omega
 have hne2 : ¬ w.heap.size + 1 = w.heap.size + 1 + 1 := by omega
 go_enter Tryz.func29, Tryz.ntmps29
 go_upto_region 3 with fail
 rw [HW1.out]
 obtain ⟨A1, c1, r1, hbs⟩ := HC0.out.rd.ex
 have HAT := Lib.hid (HA1.out (⟨0, 0⟩ : Hd.RS) HC0.out.rd.at_ _ HS1.out)
 have C := readText_st A1 l.length c1 64 l (⟨0, 0⟩ : Hd.RS) w1 hbs.bs HC0.out.rd.at_ hn (by omega) (by omega)
 rw [HS1.out] at C
 have C := Lib.hid C
 unfold RSPost rv at C
 rw [show (((⟨0, 0⟩ : Hd.RS).at_ : Nat) : Int) = 0 from rfl] at C
 have x0 := r1.cellQ 0 _ rfl
 have x1 := r1.cellQ 1 _ rfl
 have x2 := r1.cellQ 2 _ rfl
 have HRR := Lib.hid r1
 clear r1 hbs
 go_wp2_with fail
 (with_reducible refine C.out.mono ?_)
 rintro e w20 ⟨B1, d1, ho, hb, rfl⟩
 have rr := HRR.out.belowS hb (Nat.le_refl _)
 have HL := Lib.hid (HC0.out.rl.belowS hb (Nat.le_refl _))
 have HP := Lib.hid (fun wd hd => hr_put (wd := wd) HC0.out.bel.size hb rr rfl HRR.out.lt HC0.out.rd.b1 HAT.out ho hd)
 clear x0 x1 x2 C
 have x0 := rr.cellQ 0 _ rfl
 have x1 := rr.cellQ 1 _ rfl
 have x2 := rr.cellQ 2 _ rfl
 have y0 := rr.frozen 0
 have y1 := rr.frozen 1
 have y2 := rr.frozen 2
 have z0 := HL.out.cellQ 0 _ rfl
 have u0 := HL.out.frozen 0
 clear rr ho hb
 go_upto_region 4 with fail
 generalize hwc : World.setCell (World.setCell (World.setCell w20 _ _) _ _) _ _ = wc
 have HP2 := HP.out wc (by rw [← hwc]; rfl)
 have HD := Lib.hid (HC0.out.turn HP2.1 HP2.2.1 HP2.2.2)
 generalize hwd : World.setCell wc _ _ = w11
 have HC1 := Lib.hid (show RlC w w11 (w.heap.size + 1 + 1) (w.heap.size + 1) w.heap.size l s1 #[sv v1, (.string { data := #[] }), (.string { data := #[] })] by rw [← hwd]; exact HD.out.setL rfl 0 _)
 clear hwc hwd HP HP2 HD HL HRR HAT x0 x1 x2 y0 y1 y2 z0 u0 HC0
 obtain ⟨A2, c2, r2, hbs⟩ := HC1.out.rd.ex
 have HAT := Lib.hid (HA1.out s1 HC1.out.rd.at_ _ HS2.out)
 have C := readText_st A2 l.length c2 64 l s1 w11 hbs.bs HC1.out.rd.at_ hn (by omega) (by omega)
 rw [HS2.out] at C
 have C := Lib.hid C
 unfold RSPost rv at C
 have x0 := r2.cellQ 0 _ rfl
 have x1 := r2.cellQ 1 _ rfl
 have x2 := r2.cellQ 2 _ rfl
 have HRR := Lib.hid r2
 clear r2 hbs
 go_wp2_with fail
 (with_reducible refine C.out.mono ?_)
 rintro e w21 ⟨B2, d2, ho, hb, rfl⟩
 have rr := HRR.out.belowS hb (Nat.le_refl _)
 have HL := Lib.hid (HC1.out.rl.belowS hb (Nat.le_refl _))
 have HP := Lib.hid (fun wd hd => hr_put (wd := wd) HC1.out.bel.size hb rr rfl HRR.out.lt HC1.out.rd.b1 HAT.out ho hd)
 clear x0 x1 x2 C
 have x0 := rr.cellQ 0 _ rfl
 have x1 := rr.cellQ 1 _ rfl
 have x2 := rr.cellQ 2 _ rfl
 have y0 := rr.frozen 0
 have y1 := rr.frozen 1
 have y2 := rr.frozen 2
 have z0 := HL.out.cellQ 1 _ rfl
 have u0 := HL.out.frozen 1
 clear rr ho hb
 go_upto_region 5 with fail
 generalize hwc : World.setCell (World.setCell (World.setCell w21 _ _) _ _) _ _ = wc
 have HP2 := HP.out wc (by rw [← hwc]; rfl)
 have HD := Lib.hid (HC1.out.turn HP2.1 HP2.2.1 HP2.2.2)
 generalize hwd : World.setCell wc _ _ = w12
 have HC2 := Lib.hid (show RlC w w12 (w.heap.size + 1 + 1) (w.heap.size + 1) w.heap.size l s2 #[sv v1, sv v2, (.string { data := #[] })] by rw [← hwd]; exact HD.out.setL rfl 1 _)
 clear hwc hwd HP HP2 HD HL HRR HAT x0 x1 x2 y0 y1 y2 z0 u0 HC1
 obtain ⟨A3, c3, r3, hbs⟩ := HC2.out.rd.ex
 have HAT := Lib.hid (HA3.out s2 HC2.out.rd.at_ _ HS3.out)
 have C := readDigest_st A3 l.length c3 l s2 w12 hbs.bs HC2.out.rd.at_ hn
 rw [HS3.out] at C
 have C := Lib.hid C
 unfold RSPost rv at C
 have x0 := r3.cellQ 0 _ rfl
 have x1 := r3.cellQ 1 _ rfl
 have x2 := r3.cellQ 2 _ rfl
 have HRR := Lib.hid r3
 clear r3 hbs
 go_wp2_with fail
 (with_reducible refine C.out.mono ?_)
 rintro e w22 ⟨B3, d3, ho, hb, rfl⟩
 have rr := HRR.out.belowS hb (Nat.le_refl _)
 have HL := Lib.hid (HC2.out.rl.belowS hb (Nat.le_refl _))
 have HP := Lib.hid (fun wd hd => hr_put (wd := wd) HC2.out.bel.size hb rr rfl HRR.out.lt HC2.out.rd.b1 HAT.out ho hd)
 clear x0 x1 x2 C
 have x0 := rr.cellQ 0 _ rfl
 have x1 := rr.cellQ 1 _ rfl
 have x2 := rr.cellQ 2 _ rfl
 have y0 := rr.frozen 0
 have y1 := rr.frozen 1
 have y2 := rr.frozen 2
 have z0 := HL.out.cellQ 2 _ rfl
 have u0 := HL.out.frozen 2
 clear rr ho hb
 go_upto_region 6 with fail
 generalize hwc : World.setCell (World.setCell (World.setCell w22 _ _) _ _) _ _ = wc
 have HP2 := HP.out wc (by rw [← hwc]; rfl)
 have HD := Lib.hid (HC2.out.turn HP2.1 HP2.2.1 HP2.2.2)
 generalize hwd : World.setCell wc _ _ = w13
 have HC3 := Lib.hid (show RlC w w13 (w.heap.size + 1 + 1) (w.heap.size + 1) w.heap.size l s3 #[sv v1, sv v2, sv v3] by rw [← hwd]; exact HD.out.setL rfl 2 _)
 clear hwc hwd HP HP2 HD HL HRR HAT x0 x1 x2 y0 y1 y2 z0 u0 HC2
 obtain ⟨Ag, cg, rg, CD⟩ := HC3.out.rd.doneC HDX.out
 have CD := Lib.hid CD
 have x0 := rg.cellQ 0 _ rfl
 have x1 := rg.cellQ 1 _ rfl
 have x2 := rg.cellQ 2 _ rfl
 clear rg
 go_wp2_with fail
 (with_reducible refine (CD.out _).mono ?_)
 rintro e w30 ⟨rfl, hb30⟩
 have HF := Lib.hid (HC3.out.keep hb30)
 clear hb30 x0 x1 x2 CD HC3
 have z0 := HF.out.rr.cellQ 0 _ rfl
 have z1 := HF.out.rr.cellQ 1 _ rfl
 have z2 := HF.out.rr.cellQ 2 _ rfl
 have u0 := HF.out.rr.frozen 0
 have u1 := HF.out.rr.frozen 1
 have u2 := HF.out.rr.frozen 2
 by_cases hd0 : dx = 0
 ·
  subst hd0
  have HR1 := Lib.hid (show R = .ok ⟨v1, v2, v3⟩ by rw [← HR.out, if_neg (by simp)])
  have q0 := HF.out.rl.cellQ 0 _ rfl
  have q1 := HF.out.rl.cellQ 1 _ rfl
  have q2 := HF.out.rl.cellQ 2 _ rfl
  go_wp2
  generalize hwf : World.setCell (World.setCell (World.setCell w30 _ _) _ _) _ _ = wf
  have hsf : setFrom w.heap.size w30 0 [sv v1, sv v2, sv v3] = wf := by rw [← hwf]; rfl
  have hrow := HF.out.rr.all [sv v1, sv v2, sv v3] rfl
  rw [hsf] at hrow
  have r0 := hrow.cellQ 0 _ rfl
  have r1 := hrow.cellQ 1 _ rfl
  have r2 := hrow.cellQ 2 _ rfl
  refine bodyPost_ret (v := .tuple #[.agg #[sv v1, sv v2, sv v3], .int .i64 0]) (by simp [results, Tryz.results29, go_sem, r0, r1, r2]) rfl ?_
  have hbel : Below w.heap.size w wf := by rw [← hsf]; exact below_setFrom (Nat.le_refl _) _ 0 HF.out.bel
  rw [HR1.out]
  exact ⟨hbel, rfl⟩
 ·
  have HR1 := Lib.hid (show R = .error dx by rw [← HR.out, if_pos hd0])
  have hdi : ((dx : Int) == 0) = false := beq_eq_false_iff_ne.2 (by omega)
  go_wp2
  generalize hwf : World.setCell (World.setCell (World.setCell w30 _ _) _ _) _ _ = wf
  have hsf : setFrom w.heap.size w30 0 [.string { data := #[] }, .string { data := #[] }, .string { data := #[] }] = wf := by rw [← hwf]; rfl
  have hrow := HF.out.rr.all [.string { data := #[] }, .string { data := #[] }, .string { data := #[] }] rfl
  rw [hsf] at hrow
  have r0 := hrow.cellQ 0 _ rfl
  have r1 := hrow.cellQ 1 _ rfl
  have r2 := hrow.cellQ 2 _ rfl
  refine bodyPost_ret (v := .tuple #[.agg #[.string { data := #[] }, .string { data := #[] }, .string { data := #[] }], .int .i64 (dx : Int)]) (by simp [results, Tryz.results29, go_sem, r0, r1, r2]) rfl ?_
  have hbel : Below w.heap.size w wf := by rw [← hsf]; exact below_setFrom (Nat.le_refl _) _ 0 HF.out.bel
  rw [HR1.out]
  exact ⟨hbel, rfl, hd0⟩
namespace Hd
structure Pf where
 at_ : Int
 link : Lk
 path : List By
 docs : By
end Hd
def pfv (Ap : Option Addr) (np cp : Nat) (Ad : Option Addr) (nd cd : Nat) (p : Hd.Pf) : Value := .agg #[.int .i64 p.at_, sv p.link.term, sv p.link.next, sv p.link.posts, .slice Ap np cp, .slice Ad nd cd]
section
variable {w W W' : World} {B g gr gp : Nat} {l : List UInt8} {s s' : Hd.RS} {ps : Array Value}
end
namespace Hd
end Hd
structure PfD where
 p : Hd.Pf
 ap : Option Addr
 np : Nat
 cp : Nat
 ad : Option Addr
 nd : Nat
 cd : Nat
structure RwD where
 a : Option Addr
 n : Nat
 c : Nat
 l : List PfD
def pfc (d : PfD) : List Value := [.int .i64 d.p.at_, sv d.p.link.term, sv d.p.link.next, sv d.p.link.posts, .slice d.ap d.np d.cp, .slice d.ad d.nd d.cd]
structure InPf (W : World) (d : PfD) : Prop where
 s : Ss W d.ap d.np d.cp d.p.path
 b : Bs W d.ad d.nd d.cd d.p.docs
theorem InPf.keep {W W' : World} {d : PfD} (h : InPf W d) (hb : Below W.heap.size W W') : InPf W' d := ⟨h.s.keep hb, h.b.keep hb⟩
namespace Hd
structure An where
 h : H
 rows : List (List Pf)
end Hd
namespace Hd
end Hd
section
variable {α : Type} {cs : α → List Value} {k bytes : Nat} {ops : Array Oper} {rest : List Oper} {o : Oper} {a : Act} {Q : Exit → Act → World → Prop} {w : World}
theorem wl_appQ1k {T e : TypeId} (hk : ∀ a, (cs a).length = k) (hT : ElemT Tryz.prog T e k bytes) (hbt : bytes ≤ 1000) (hone : ∀ a, ∀ u ∈ cs a, u.oneCell' = true) (hgd : o.guard = none) (s x : Operand) (ho : o.op = .call { callee := .builtin .append, args := #[s, x], argTypes := #[T, T] })
  {w0 : World} {B : Nat} {A : Option Addr} {n c : Nat} {l : List α} (hs : a.eval s = .slice A n c) (h1 : OwnQ cs k e w0 B A n c l) (hx : a.eval x = .slice (some ⟨w0.heap.size, 0, none⟩) 1 1) (b : α) {lit : Array Value} (hlit : lit.toList = cs b) (hsz : n ≤ 1000000000) (hB : B ≤ w0.heap.size)
  (h : ∀ A' c' w', OwnQ cs k e w' B A' (n + 1) c' (l ++ [b]) → (w0.alloc (.cells lit e)).grownBy w' (Value.slice A n c).ownBlock → Below B (w0.alloc (.cells lit e)) w' → wpList Tryz.prog ops Q rest (a.put o.dst (.slice A' (n + 1) c')) w') : wpList Tryz.prog ops Q (o :: rest) a (w0.alloc (.cells lit e)) := by
 have hb0 : Below w0.heap.size w0 (w0.alloc (.cells lit e)) := (Below.refl _ w0).alloc (Nat.le_refl _) _
 have hr : Rd (w0.alloc (.cells lit e)) (w0.heap.size + 1) (some ⟨w0.heap.size, 0, none⟩) (cs b) := by
  have := rd_new w0 (cs b) e (0, 0)
  rw [← hlit] at this ⊢
  simpa using this
 refine wl_app hgd s x T ho B e k bytes hT _ n _ hs (h1.keep hb0).own (w0.heap.size + 1) (some ⟨w0.heap.size, 0, none⟩) 1 1 (cs b) hx hr (by rw [hk, Nat.one_mul]) (hone b) (by rw [maxLen_eq]; omega) (by
  have : (n + 1) * bytes ≤ (n + 1) * 1000 := Nat.mul_le_mul_left _ hbt
  omega) (Nat.le_trans hB hb0.size) fun A' c' w' g1 g2 _ g4 g5 g6 => ?_
 exact h A' c' w' ⟨by rw [List.flatMap_append]; simpa using g1, by rw [List.length_append, h1.len]; rfl, g5, g6⟩ g2 g4
end
section
variable {w W W' : World} {B g gr ga : Nat} {l : List UInt8} {s s' : Hd.RS} {cs : Array Value} {Ah : Option Addr} {nh ch : Nat} {hs : List Hd.Sg} {Ar : Option Addr} {nr cr : Nat} {LL : List RwD}
end
section
variable {wz W W' : World} {B g : Nat} {l : List UInt8} {s s' : Hd.RS} {A : Option Addr} {n c : Nat} {L : List PfD}
end
namespace Hd
end Hd
namespace Hd
/-! Links. -/
theorem Lk.may_iff {k : Lk} : k.may = true ↔ k.term.length ≤ 64 ∧ k.next.length ≤ 64 ∧ k.posts.length = 32 := by
 unfold Lk.may
 simp only [Bool.and_eq_true, decide_eq_true_eq]
theorem Lk.bytes_le {k : Lk} (h : k.may = true) : k.bytes.length ≤ 178 := by
 obtain ⟨h1, h2, h3⟩ := Lk.may_iff.1 h
 have a1 := text_le h1 (by omega)
 have a2 := text_le h2 (by omega)
 unfold Lk.bytes
 rw [List.length_append, List.length_append]
 omega
theorem rdLk_bytes {k : Lk} (h : k.may = true) : rdLk k.bytes = .ok k := by
 obtain ⟨h1, h2, h3⟩ := Lk.may_iff.1 h
 have d0 : k.bytes.drop 0 = Code.text k.term ++ (Code.text k.next ++ (k.posts ++ [])) := by unfold Lk.bytes; simp
 have e0 := stText_of (most := 64) d0 (by omega) (by omega)
 have d1 := drop_add d0
 have e1 := stText_of (most := 64) d1 (by omega) (by omega)
 have d2 := drop_add d1
 have e2 := stDig_of d2 h3
 have d3 := drop_add d2
 have hlen := congrArg List.length d3
 rw [List.length_drop, List.length_nil, h3] at hlen
 unfold rdLk
 simp only [e0, e1, e2]
 rw [if_neg]
 unfold doneX
 simp only [ne_eq, not_true, if_false]
 rw [if_neg (by omega)]
 simp
/-! Proofs. -/
/-! Rows of proofs. -/
end Hd
end Go.Proofs.YteoledjllpgcbaaGreatDoor
