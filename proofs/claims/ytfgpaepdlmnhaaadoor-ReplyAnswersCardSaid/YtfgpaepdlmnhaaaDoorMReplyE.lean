/- MReplyE: several texts of this claim in one file. No statement of the seat is proved here. -/
import Derived.Test.YtfgpaepdlmnhaaaDoorMReplyD
namespace Go.Proofs.YtfgpaepdlmnhaaaDoor
set_option maxRecDepth 100000
set_option linter.unusedVariables false
open Go.RowKit
namespace Hd
structure Lk where
  term : By
  next : By
  posts : By
def Lk.may (k : Lk) : Bool := decide (k.term.length ≤ 64) && (decide (k.next.length ≤ 64) && decide (k.posts.length = 32))
def Lk.bytes (k : Lk) : By := (Code.text k.term ++ Code.text k.next) ++ k.posts
def Lk.wr (k : Lk) : Option By := if k.may = true then some k.bytes else none
end Hd
set_option maxRecDepth 100000 in
set_option maxHeartbeats 8000000 in
theorem rmay_any (k : Hd.Lk) (w : World) : Calls Tryd.prog 94 #[.agg #[sv k.term, sv k.next, sv k.posts]] w (RetB k.may w) := by
  have h1 := row_new w #[sv k.term, sv k.next, sv k.posts] 106
  have hb := (Below.refl w.heap.size w).alloc (Nat.le_refl _) (.cells #[sv k.term, sv k.next, sv k.posts] 106)
  obtain ⟨w1, hw1⟩ : ∃ W, w.alloc (.cells #[sv k.term, sv k.next, sv k.posts] 106) = W := ⟨_, rfl⟩
  rw [hw1] at h1 hb
  have HW1 := Lib.hid hw1
  have HR0 := Lib.hid h1
  have HB0 := Lib.hid hb
  have x0 := h1.cellQ 0 _ rfl
  have x1 := h1.cellQ 1 _ rfl
  have x2 := h1.cellQ 2 _ rfl
  have z0 : (str k.term).size = k.term.length := strLen _
  have z1 : (str k.next).size = k.next.length := strLen _
  have z2 : (str k.posts).size = k.posts.length := strLen _
  clear hw1 h1 hb
  by_cases h0 : k.term.length ≤ 64
  · have a0 : ¬ (64 : Int) < (k.term.length : Int) := by omega
    have b0 : (k.term.length : Int) ≤ 64 := by omega
    by_cases h1 : k.next.length ≤ 64
    · have a1 : ¬ (64 : Int) < (k.next.length : Int) := by omega
      have b1 : (k.next.length : Int) ≤ 64 := by omega
      by_cases h2 : k.posts.length = 32
      · have a2 : ((k.posts.length : Int) == 32) = true := by rw [h2]; rfl
        have b2 : (k.posts.length : Int) = 32 := by omega
        have HE := Lib.hid (show k.may = true by unfold Hd.Lk.may; simp [*])
        go_enter Tryd.func94, Tryd.ntmps94
        go_upto_region 1 with fail
        rw [HW1.out]
        go_wp2
        go_ret
        rw [HE.out]
        exact ⟨rfl, HB0.out⟩
      · have a2 : ((k.posts.length : Int) == 32) = false := beq_eq_false_iff_ne.2 (by omega)
        have b2 : ¬ (k.posts.length : Int) = 32 := by omega
        have HE := Lib.hid (show k.may = false by unfold Hd.Lk.may; simp [*])
        go_enter Tryd.func94, Tryd.ntmps94
        go_upto_region 1 with fail
        rw [HW1.out]
        go_wp2
        go_ret
        rw [HE.out]
        exact ⟨rfl, HB0.out⟩
    · have a1 : (64 : Int) < (k.next.length : Int) := by omega
      have b1 : ¬ (k.next.length : Int) ≤ 64 := by omega
      have HE := Lib.hid (show k.may = false by unfold Hd.Lk.may; simp [*])
      go_enter Tryd.func94, Tryd.ntmps94
      go_upto_region 1 with fail
      rw [HW1.out]
      go_wp2
      go_ret
      rw [HE.out]
      exact ⟨rfl, HB0.out⟩
  · have a0 : (64 : Int) < (k.term.length : Int) := by omega
    have b0 : ¬ (k.term.length : Int) ≤ 64 := by omega
    have HE := Lib.hid (show k.may = false by unfold Hd.Lk.may; simp [*])
    go_enter Tryd.func94, Tryd.ntmps94
    go_upto_region 1 with fail
    rw [HW1.out]
    go_wp2
    go_ret
    rw [HE.out]
    exact ⟨rfl, HB0.out⟩
set_option maxRecDepth 100000 in
set_option maxHeartbeats 8000000 in
theorem wlink_any (k : Hd.Lk) (w : World) : Calls Tryd.prog 81 #[.agg #[sv k.term, sv k.next, sv k.posts]] w (WPost k.wr w) := by
  have h1 := row_new w #[sv k.term, sv k.next, sv k.posts] 77
  have hb := (Below.refl w.heap.size w).alloc (Nat.le_refl _) (.cells #[sv k.term, sv k.next, sv k.posts] 77)
  obtain ⟨w1, hw1⟩ : ∃ W, w.alloc (.cells #[sv k.term, sv k.next, sv k.posts] 77) = W := ⟨_, rfl⟩
  rw [hw1] at h1 hb
  have HW1 := Lib.hid hw1
  have HR0 := Lib.hid h1
  have HB0 := Lib.hid hb
  have x0 := h1.cellQ 0 _ rfl
  have x1 := h1.cellQ 1 _ rfl
  have x2 := h1.cellQ 2 _ rfl
  have z0 : (str k.term).size = k.term.length := strLen _
  have z1 : (str k.next).size = k.next.length := strLen _
  have z2 : (str k.posts).size = k.posts.length := strLen _
  clear hw1 h1 hb
  by_cases h0 : k.term.length ≤ 64
  · have a0 : ¬ (64 : Int) < (k.term.length : Int) := by omega
    have b0 : (k.term.length : Int) ≤ 64 := by omega
    by_cases h1 : k.next.length ≤ 64
    · have a1 : ¬ (64 : Int) < (k.next.length : Int) := by omega
      have b1 : (k.next.length : Int) ≤ 64 := by omega
      by_cases h2 : k.posts.length = 32
      · have a2 : ((k.posts.length : Int) == 32) = true := by rw [h2]; rfl
        have b2 : (k.posts.length : Int) = 32 := by omega
        have HE := Lib.hid (show k.wr = some k.bytes by unfold Hd.Lk.wr Hd.Lk.may; simp [*])
        have t0 := text_len k.term (by omega)
        have t1 := text_len k.next (by omega)
        go_enter Tryd.func81, Tryd.ntmps81
        go_upto_region 1 with fail
        rw [HW1.out]
        go_wp2_with fail
        (with_reducible refine (text_any none 0 0 [] k.term w1 (Bs.nil _) (by omega) (by omega)).mono ?_)
        rintro e w2 ⟨A2, n2, c2, rfl, ho2, hb2⟩
        rw [List.nil_append] at ho2
        have HB2 := Lib.hid (bt HB0.out hb2)
        have HR2 := Lib.hid (HR0.out.belowS hb2 (Nat.le_refl _))
        have HO2 := Lib.hid ho2
        have hl2 := ho2.len
        clear hb2 ho2 x0 x1 x2
        have x1 := HR2.out.cellQ 1 _ rfl
        go_wp2_with fail
        (with_reducible refine (text_any A2 n2 c2 (Code.text k.term) k.next w2 HO2.out.bs (by omega) (by omega)).mono ?_)
        rintro e w3 ⟨A3, n3, c3, rfl, ho3, hb3⟩
        have HB3 := Lib.hid (bt HB2.out hb3)
        have HR3 := Lib.hid (HR2.out.belowS hb3 (Nat.le_refl _))
        have HO3 := Lib.hid (ho3.base HB2.out.size)
        have hl3 := ho3.len
        rw [List.length_append] at hl3
        have hBB := HB3.out.size
        clear hb3 ho3 x1
        have x2 := HR3.out.cellQ 2 _ rfl
        go_wp2_with (at_builtin; refine wl_appS rfl (.tmp 28) (.tmp 30) rfl rfl HO3.out rfl (by omega) hBB ?_; intro A4 n4 c4 w4 ho4 hb4 hg4; have HP := Lib.hid (And.intro ho4 hb4); clear ho4 hb4 hg4)
        go_ret2
        rw [HE.out]
        exact ⟨A4, n4, c4, rfl, HP.out.1, HB3.out.trans HP.out.2⟩
      · have a2 : ((k.posts.length : Int) == 32) = false := beq_eq_false_iff_ne.2 (by omega)
        have b2 : ¬ (k.posts.length : Int) = 32 := by omega
        have HE := Lib.hid (show k.wr = none by unfold Hd.Lk.wr Hd.Lk.may; simp [*])
        go_enter Tryd.func81, Tryd.ntmps81
        go_upto_region 1 with fail
        rw [HW1.out]
        go_wp2
        go_ret2
        rw [HE.out]
        exact ⟨rfl, HB0.out⟩
    · have a1 : (64 : Int) < (k.next.length : Int) := by omega
      have b1 : ¬ (k.next.length : Int) ≤ 64 := by omega
      have HE := Lib.hid (show k.wr = none by unfold Hd.Lk.wr Hd.Lk.may; simp [*])
      go_enter Tryd.func81, Tryd.ntmps81
      go_upto_region 1 with fail
      rw [HW1.out]
      go_wp2
      go_ret2
      rw [HE.out]
      exact ⟨rfl, HB0.out⟩
  · have a0 : (64 : Int) < (k.term.length : Int) := by omega
    have b0 : ¬ (k.term.length : Int) ≤ 64 := by omega
    have HE := Lib.hid (show k.wr = none by unfold Hd.Lk.wr Hd.Lk.may; simp [*])
    go_enter Tryd.func81, Tryd.ntmps81
    go_upto_region 1 with fail
    rw [HW1.out]
    go_wp2
    go_ret2
    rw [HE.out]
    exact ⟨rfl, HB0.out⟩
def Free.x8b (B : Nat) (l : List UInt8) : Free.SV := ⟨fun v w => ∃ A n c, v = .slice A n c ∧ Own8 w B A n c l, fun v w w' ⟨A, n, c, h1, h2⟩ g => ⟨A, n, c, h1, h2.keep g⟩⟩
set_option maxRecDepth 100000 in
set_option maxHeartbeats 8000000 in
theorem rwlink_any (k : Hd.Lk) (w : World) (h0 : k.term.length ≤ 10000) (h1 : k.next.length ≤ 10000) (h2 : k.posts.length ≤ 10000) : Calls Tryd.prog 97 #[.agg #[sv k.term, sv k.next, sv k.posts]] w (Ret8 w.heap.size k.bytes w) := by
  have h1 := row_new w #[sv k.term, sv k.next, sv k.posts] 106
  have hb := (Below.refl w.heap.size w).alloc (Nat.le_refl _) (.cells #[sv k.term, sv k.next, sv k.posts] 106)
  obtain ⟨w1, hw1⟩ : ∃ W, w.alloc (.cells #[sv k.term, sv k.next, sv k.posts] 106) = W := ⟨_, rfl⟩
  rw [hw1] at h1 hb
  have HW1 := Lib.hid hw1
  have HR0 := Lib.hid h1
  have HB0 := Lib.hid hb
  have x0 := h1.cellQ 0 _ rfl
  have x1 := h1.cellQ 1 _ rfl
  have x2 := h1.cellQ 2 _ rfl
  have z0 : (str k.term).size = k.term.length := strLen _
  have z1 : (str k.next).size = k.next.length := strLen _
  have z2 : (str k.posts).size = k.posts.length := strLen _
  clear hw1 h1 hb
  have HLT := Lib.hid HR0.out.lt
  have t0 := text_len k.term (by omega)
  have t1 := text_len k.next (by omega)
  clear x0 x1 x2 z0 z1 z2
  go_enter Tryd.func97, Tryd.ntmps97
  go_upto_region 1 with fail
  rw [HW1.out]
  refine FreeP.wp_app_l 9 6 w1.heap.size (fun W => Row W w.heap.size #[sv k.term, sv k.next, sv k.posts] 106 ∧ Below w.heap.size w W ∧ w1.heap.size ≤ W.heap.size) [.ac (.pointer (some ⟨w.heap.size, 0, none⟩)), .ac (sv k.term), .ad (Free.x8b (w1.heap.size) ((Code.text k.term))), .ac (.pointer (some ⟨w.heap.size, 1, none⟩)), .ac (sv k.next), .ad (Free.x8b (w1.heap.size) ((Code.text k.next))), .ac undef, .ac (.pointer (some ⟨w.heap.size, 2, none⟩)), .ac (sv k.posts)] (Free.x8b w1.heap.size (Code.text k.term ++ Code.text k.next)) (by kernel_rfl) (by kernel_rfl) (by decide) (by decide) ⟨HR0.out.drew, HB0.out.trans (bel_drew _ _), Nat.le_refl _⟩ (fun W W' h g => ⟨h.1.belowS g (Nat.le_refl _), bt h.2.1 g, Nat.le_trans h.2.2 g.size⟩) (fun W W' h g => ⟨h.1.below g HLT.out, h.2.1.trans (g.mono (Nat.le_of_lt HLT.out)), Nat.le_trans h.2.2 g.size⟩) ?_ ?_
  · refine Free.forall_succ (Free.forall_succ (Free.forall_succ (Free.forall_succ (Free.forall_succ (Free.forall_succ (Free.forall_succ (Free.forall_succ (Free.forall_succ (Free.forall_zero) ?_) ?_) ?_) ?_) ?_) ?_) ?_) ?_) ?_
    · exact FreeP.oba_plain _ rfl rfl (by decide) fun dead vals wq hC hd => (by exact d_field (cx := .pointer (some ⟨w.heap.size, 0, none⟩)) rfl (by kernel_rfl) (by go_simp) rfl)
    · exact FreeP.oba_plain _ rfl rfl (by decide) fun dead vals wq hC hd => (by exact Free.d_load (cx := .pointer (some ⟨w.heap.size, 0, none⟩)) rfl (Eq.trans (b := vals 0) (by kernel_rfl) (hd 0 (by kernel_rfl))) (by have hcc := hC.1.cellQ 0 _ rfl; go_simp) rfl)
    · exact FreeP.oba_plain _ rfl rfl (by decide) fun dead vals wq hC hd => (by exact Free.d_call Tryd.func65 rfl rfl rfl rfl (Free.arg1 (Eq.trans (b := vals 1) (by kernel_rfl) (hd 1 (by kernel_rfl)))) ((rtext_any k.term wq (by omega)).mono fun e w2 ⟨a, b, c, he, ho, hb⟩ => ⟨_, he, .inr ⟨a, b, c, rfl, ho.base hC.2.2⟩, hb⟩))
    · exact FreeP.oba_plain _ rfl rfl (by decide) fun dead vals wq hC hd => (by exact d_field (cx := .pointer (some ⟨w.heap.size, 0, none⟩)) rfl (by kernel_rfl) (by go_simp) rfl)
    · exact FreeP.oba_plain _ rfl rfl (by decide) fun dead vals wq hC hd => (by exact Free.d_load (cx := .pointer (some ⟨w.heap.size, 1, none⟩)) rfl (Eq.trans (b := vals 3) (by kernel_rfl) (hd 3 (by kernel_rfl))) (by have hcc := hC.1.cellQ 1 _ rfl; go_simp) rfl)
    · exact FreeP.oba_plain _ rfl rfl (by decide) fun dead vals wq hC hd => (by exact Free.d_call Tryd.func65 rfl rfl rfl rfl (Free.arg1 (Eq.trans (b := vals 4) (by kernel_rfl) (hd 4 (by kernel_rfl)))) ((rtext_any k.next wq (by omega)).mono fun e w2 ⟨a, b, c, he, ho, hb⟩ => ⟨_, he, .inr ⟨a, b, c, rfl, ho.base hC.2.2⟩, hb⟩))
    · exact FreeP.oba_app _ rfl rfl fun vals wq hC hd => (by obtain ⟨A2, n2, k2, e2, ow2⟩ := (hd 2 (by kernel_rfl)).resolve_left (by simp); obtain ⟨A5, n5, k5, e5, ow5⟩ := (hd 5 (by kernel_rfl)).resolve_left (by simp); exact FreeP.s_app bytesT rfl (Eq.trans (b := vals 2) (by kernel_rfl) e2) ow2.own (Eq.trans (b := vals 5) (by kernel_rfl) e5) ow5.bs.rd (by simpa using ow5.bs.len) (one_b _) (by have := ow2.len; have := ow5.len; rw [maxLen_eq]; omega) (by have := ow2.len; have := ow5.len; omega) hC.2.2 (fun A9 c9 w9 h1 h2 h3 h4 h5 => ⟨⟨A9, _, c9, rfl, ⟨by rw [← List.map_append] at h1; exact h1, by rw [List.length_append, ow2.len, ow5.len], h4, h5⟩⟩, h3⟩))
    · exact FreeP.oba_plain _ rfl rfl (by decide) fun dead vals wq hC hd => (by exact d_field (cx := .pointer (some ⟨w.heap.size, 0, none⟩)) rfl (by kernel_rfl) (by go_simp) rfl)
    · exact FreeP.oba_plain _ rfl rfl (by decide) fun dead vals wq hC hd => (by exact Free.d_load (cx := .pointer (some ⟨w.heap.size, 2, none⟩)) rfl (Eq.trans (b := vals 7) (by kernel_rfl) (hd 7 (by kernel_rfl))) (by have hcc := hC.1.cellQ 2 _ rfl; go_simp) rfl)
  · intro vals wq hC hd
    have e0 : vals 0 = (.pointer (some ⟨w.heap.size, 0, none⟩)) := hd 0 (by decide)
    have e1 : vals 1 = (sv k.term) := hd 1 (by decide)
    have e3 : vals 3 = (.pointer (some ⟨w.heap.size, 1, none⟩)) := hd 3 (by decide)
    have e4 : vals 4 = (sv k.next) := hd 4 (by decide)
    obtain ⟨A6, n6, k6, e6, ow6⟩ := hd 6 (by decide)
    have e7 : vals 7 = (.pointer (some ⟨w.heap.size, 2, none⟩)) := hd 7 (by decide)
    have e8 : vals 8 = (sv k.posts) := hd 8 (by decide)
    simp only [Free.frameOf, List.range, List.range.loop, List.foldl, Free.dstOf, List.getElem?_toArray, List.getElem?_cons_zero, List.getElem?_cons_succ, Option.bind_some, Act.put, List.setIfInBounds_toArray, List.set_cons_zero, List.set_cons_succ, e0, e1, e3, e4, e6, e7, e8]
    clear hd e0 e1 e3 e4 e6 e7 e8
    have HC := Lib.hid hC
    have HO := Lib.hid ow6
    have hln := ow6.len
    rw [List.length_append] at hln
    have hBB := hC.2.2
    clear hC ow6
    refine wl_appS rfl (.tmp 9) (.tmp 11) rfl rfl HO.out rfl (by omega) hBB ?_
    intro A4 n4 c4 w4 ho4 hb4 hg4
    have HP := Lib.hid (And.intro ho4 hb4)
    clear ho4 hb4 hg4
    go_wp2
    go_ret
    exact ⟨A4, n4, c4, rfl, HP.out.1.base (Nat.le_of_lt HLT.out), HC.out.2.1.trans (HP.out.2.mono (Nat.le_of_lt HLT.out))⟩
end Go.Proofs.YtfgpaepdlmnhaaaDoor

namespace Go.Proofs.YtfgpaepdlmnhaaaDoor
set_option maxRecDepth 100000
set_option linter.unusedVariables false
open Go.RowKit
namespace Hd
def rdLk (l : By) : Except Nat Lk :=
  if doneX l (stDig l (stText l 64 (stText l 64 ⟨0, 0⟩).1).1).1 ≠ 0 then .error (doneX l (stDig l (stText l 64 (stText l 64 ⟨0, 0⟩).1).1).1) else .ok ⟨(stText l 64 ⟨0, 0⟩).2, (stText l 64 (stText l 64 ⟨0, 0⟩).1).2, (stDig l (stText l 64 (stText l 64 ⟨0, 0⟩).1).1).2⟩
end Hd
def RLkPost (r : Except Nat Hd.Lk) (w : World) (e : Ending) (w' : World) : Prop := Below w.heap.size w w' ∧ match r with
  | .ok k => e = .returned (.tuple #[.agg #[sv k.term, sv k.next, sv k.posts], .int .i64 0])
  | .error x => e = .returned (.tuple #[.agg #[.string { data := #[] }, .string { data := #[] }, .string { data := #[] }], .int .i64 (x : Int)]) ∧ x ≠ 0
/-- What stands in a link's reading. -/
structure RlC (w W : World) (g gl gr : Nat) (l : List UInt8) (s : Hd.RS) (cs : Array Value) : Prop where
  rd : HRd W w.heap.size g l s
  rl : Row W gl cs 77
  rr : Row W gr #[.string { data := #[] }, .string { data := #[] }, .string { data := #[] }] 77
  bel : Below w.heap.size w W
  g0 : w.heap.size ≤ gl
  r0 : w.heap.size ≤ gr
  ne : gr ≠ gl
section
variable {w W W' : World} {g gl gr : Nat} {l : List UInt8} {s s' : Hd.RS} {cs : Array Value}
theorem RlC.keep (h : RlC w W g gl gr l s cs) (hb : Below W.heap.size W W') : RlC w W' g gl gr l s cs := ⟨h.rd.keep hb, h.rl.belowS hb (Nat.le_refl _), h.rr.belowS hb (Nat.le_refl _), bt h.bel hb, h.g0, h.r0, h.ne⟩
theorem RlC.turn (h : RlC w W g gl gr l s cs) (hr : HRd W' w.heap.size g l s') (hb : Below w.heap.size W W') (k : KeepTy SR W W') : RlC w W' g gl gr l s' cs := ⟨hr, h.rl.keepTy (by decide) k, h.rr.keepTy (by decide) k, h.bel.trans hb, h.g0, h.r0, h.ne⟩
theorem RlC.setL (h : RlC w W g gl gr l s cs) (hu : cs.toList.all notU8 = true) (j : Nat) (v : Value) : RlC w (W.setCell ⟨gl, j, none⟩ v) g gl gr l s (cs.setIfInBounds j v) := ⟨HRd.setF h.rd h.rl (by decide) hu (by decide) [v] j, h.rl.set j v, h.rr.far gl j v h.ne, h.bel.setCell (p := ⟨gl, j, none⟩) h.g0 v, h.g0, h.r0, h.ne⟩
end
theorem HRd.doneC {w : World} {B g : Nat} {l : List UInt8} {s : Hd.RS} {d : Nat} (h : HRd w B g l s) (e : Hd.doneX l s = d) : ∃ A c, Row w g #[.slice A l.length c, .int .i64 (s.at_ : Int), .int .i64 (s.x : Int)] 122 ∧ ∀ W, Calls Tryd.prog 56 #[.agg #[.slice A l.length c, .int .i64 (s.at_ : Int), .int .i64 (s.x : Int)]] W fun e w' => e = .returned (.int .i64 (d : Int)) ∧ Below W.heap.size W w' := by
  subst e
  obtain ⟨A, c, r, hbs⟩ := h.ex
  exact ⟨A, c, r, fun W => done_st A l.length c l s W rfl h.at_ hbs.bs.cap hbs.bs.max⟩
set_option maxRecDepth 100000 in
set_option maxHeartbeats 16000000 in
theorem rlink_any (A : Option Addr) (n c : Nat) (l : List UInt8) (w : World) (h : Bs w A n c l) (hn : l.length ≤ 1000000000) : Calls Tryd.prog 71 #[.slice A n c] w (RLkPost (Hd.rdLk l) w) := by
  obtain rfl : n = l.length := h.len.symm
  obtain ⟨⟨s1, v1⟩, hs1⟩ : ∃ r, Hd.stText l 64 ⟨0, 0⟩ = r := ⟨_, rfl⟩
  obtain ⟨⟨s2, v2⟩, hs2⟩ : ∃ r, Hd.stText l 64 s1 = r := ⟨_, rfl⟩
  obtain ⟨⟨s3, v3⟩, hs3⟩ : ∃ r, Hd.stDig l s2 = r := ⟨_, rfl⟩
  obtain ⟨dx, hdx⟩ : ∃ x, Hd.doneX l s3 = x := ⟨_, rfl⟩
  have HE := Lib.hid (show Hd.rdLk l = if dx ≠ 0 then .error dx else .ok ⟨v1, v2, v3⟩ by unfold Hd.rdLk; simp only [hs1, hs2, hs3, hdx])
  have HA1 := Lib.hid (fun (s : Hd.RS) (h : s.at_ ≤ l.length) (r : Hd.RS × List UInt8) (e : Hd.stText l 64 s = r) => show r.1.at_ ≤ l.length by rw [← e]; exact Hd.stText_at h)
  have HA3 := Lib.hid (fun (s : Hd.RS) (h : s.at_ ≤ l.length) (r : Hd.RS × List UInt8) (e : Hd.stDig l s = r) => show r.1.at_ ≤ l.length by rw [← e]; exact Hd.stDig_at h)
  have HS1 := Lib.hid hs1
  have HS2 := Lib.hid hs2
  have HS3 := Lib.hid hs3
  have HDX := Lib.hid hdx
  have hz : ∀ (v : World) (o : Obj), (v.alloc o).heap.size = v.heap.size + 1 := size_alloc
  have q0 := ((row_new w #[.string { data := #[] }, .string { data := #[] }, .string { data := #[] }] 77).alloc (.cells #[.string { data := #[] }, .string { data := #[] }, .string { data := #[] }] 77)).alloc (.cells #[.slice A l.length c, .int .i64 0, .int .i64 0] 122)
  have q1 := (row_new (w.alloc (.cells #[.string { data := #[] }, .string { data := #[] }, .string { data := #[] }] 77)) #[.string { data := #[] }, .string { data := #[] }, .string { data := #[] }] 77).alloc (.cells #[.slice A l.length c, .int .i64 0, .int .i64 0] 122)
  have q2 := row_new ((w.alloc (.cells #[.string { data := #[] }, .string { data := #[] }, .string { data := #[] }] 77)).alloc (.cells #[.string { data := #[] }, .string { data := #[] }, .string { data := #[] }] 77)) #[.slice A l.length c, .int .i64 0, .int .i64 0] 122
  rw [size_alloc] at q1
  rw [size_alloc, size_alloc] at q2
  have qb := (((Below.refl w.heap.size w).alloc (Nat.le_refl _) (.cells #[.string { data := #[] }, .string { data := #[] }, .string { data := #[] }] 77)).alloc (by rw [size_alloc]; omega) (.cells #[.string { data := #[] }, .string { data := #[] }, .string { data := #[] }] 77)).alloc (by rw [size_alloc, size_alloc]; omega) (.cells #[.slice A l.length c, .int .i64 0, .int .i64 0] 122)
  obtain ⟨w1, hw1⟩ : ∃ W, ((w.alloc (.cells #[.string { data := #[] }, .string { data := #[] }, .string { data := #[] }] 77)).alloc (.cells #[.string { data := #[] }, .string { data := #[] }, .string { data := #[] }] 77)).alloc (.cells #[.slice A l.length c, .int .i64 0, .int .i64 0] 122) = W := ⟨_, rfl⟩
  rw [hw1] at q0 q1 q2 qb
  have HW1 := Lib.hid hw1
  have hf : ∀ p, A = some p → l ≠ [] → p.block < w.heap.size := fun p hp hl => by
    obtain ⟨b, off, e, hb, _⟩ := h.rd (fun e => hl (by cases l with | nil => rfl | cons => cases e))
    rw [hp] at e; injection e with e; subst e; exact hb
  have HC0 := Lib.hid (show RlC w w1 (w.heap.size + 1 + 1) (w.heap.size + 1) w.heap.size l ⟨0, 0⟩ #[.string { data := #[] }, .string { data := #[] }, .string { data := #[] }] from ⟨⟨⟨A, c, q2, ⟨h.keep qb, fun p hp hl => by have := hf p hp hl; omega, .inl hf⟩⟩, by omega, Nat.zero_le _⟩, q1, q0, qb, by omega, Nat.le_refl _, by omega⟩)
  clear hs1 hs2 hs3 hdx q0 q1 q2 qb hw1 h hf hz
  rw [HE.out]
  obtain ⟨R, hR⟩ : ∃ R, (if dx ≠ 0 then .error dx else .ok ⟨v1, v2, v3⟩ : Except Nat Hd.Lk) = R := ⟨_, rfl⟩
  have HR := Lib.hid hR
  rw [hR]
  clear hR HE
  have hne1 : ¬ w.heap.size + 1 + 1 = w.heap.size + 1 := by omega
  have hne2 : ¬ w.heap.size + 1 = w.heap.size + 1 + 1 := by omega
  go_enter Tryd.func71, Tryd.ntmps71
  go_upto_region 3 with fail
  rw [HW1.out]
  obtain ⟨A1, c1, r1, hbs⟩ := HC0.out.rd.ex
  have HAT := Lib.hid (HA1.out (⟨0, 0⟩ : Hd.RS) HC0.out.rd.at_ _ HS1.out)
  have C := readText_st A1 l.length c1 64 l (⟨0, 0⟩ : Hd.RS) w1 hbs.bs HC0.out.rd.at_ hn (by omega) (by omega)
  rw [HS1.out] at C
  have C := Lib.hid C
  unfold RSPost rv at C
  rw [show (((⟨0, 0⟩ : Hd.RS).at_ : Nat) : Int) = 0 from rfl] at C
  have x0 := r1.cellQ 0 _ rfl
  have x1 := r1.cellQ 1 _ rfl
  have x2 := r1.cellQ 2 _ rfl
  have HRR := Lib.hid r1
  clear r1 hbs
  go_wp2_with fail
  (with_reducible refine C.out.mono ?_)
  rintro e w20 ⟨B1, d1, ho, hb, rfl⟩
  have rr := HRR.out.belowS hb (Nat.le_refl _)
  have HL := Lib.hid (HC0.out.rl.belowS hb (Nat.le_refl _))
  have HP := Lib.hid (fun wd hd => hr_put (wd := wd) HC0.out.bel.size hb rr rfl HRR.out.lt HC0.out.rd.b1 HAT.out ho hd)
  clear x0 x1 x2 C
  have x0 := rr.cellQ 0 _ rfl
  have x1 := rr.cellQ 1 _ rfl
  have x2 := rr.cellQ 2 _ rfl
  have y0 := rr.frozen 0
  have y1 := rr.frozen 1
  have y2 := rr.frozen 2
  have z0 := HL.out.cellQ 0 _ rfl
  have u0 := HL.out.frozen 0
  clear rr ho hb
  go_upto_region 4 with fail
  generalize hwc : World.setCell (World.setCell (World.setCell w20 _ _) _ _) _ _ = wc
  have HP2 := HP.out wc (by rw [← hwc]; rfl)
  have HD := Lib.hid (HC0.out.turn HP2.1 HP2.2.1 HP2.2.2)
  generalize hwd : World.setCell wc _ _ = w11
  have HC1 := Lib.hid (show RlC w w11 (w.heap.size + 1 + 1) (w.heap.size + 1) w.heap.size l s1 #[sv v1, (.string { data := #[] }), (.string { data := #[] })] by rw [← hwd]; exact HD.out.setL rfl 0 _)
  clear hwc hwd HP HP2 HD HL HRR HAT x0 x1 x2 y0 y1 y2 z0 u0 HC0
  obtain ⟨A2, c2, r2, hbs⟩ := HC1.out.rd.ex
  have HAT := Lib.hid (HA1.out s1 HC1.out.rd.at_ _ HS2.out)
  have C := readText_st A2 l.length c2 64 l s1 w11 hbs.bs HC1.out.rd.at_ hn (by omega) (by omega)
  rw [HS2.out] at C
  have C := Lib.hid C
  unfold RSPost rv at C

  have x0 := r2.cellQ 0 _ rfl
  have x1 := r2.cellQ 1 _ rfl
  have x2 := r2.cellQ 2 _ rfl
  have HRR := Lib.hid r2
  clear r2 hbs
  go_wp2_with fail
  (with_reducible refine C.out.mono ?_)
  rintro e w21 ⟨B2, d2, ho, hb, rfl⟩
  have rr := HRR.out.belowS hb (Nat.le_refl _)
  have HL := Lib.hid (HC1.out.rl.belowS hb (Nat.le_refl _))
  have HP := Lib.hid (fun wd hd => hr_put (wd := wd) HC1.out.bel.size hb rr rfl HRR.out.lt HC1.out.rd.b1 HAT.out ho hd)
  clear x0 x1 x2 C
  have x0 := rr.cellQ 0 _ rfl
  have x1 := rr.cellQ 1 _ rfl
  have x2 := rr.cellQ 2 _ rfl
  have y0 := rr.frozen 0
  have y1 := rr.frozen 1
  have y2 := rr.frozen 2
  have z0 := HL.out.cellQ 1 _ rfl
  have u0 := HL.out.frozen 1
  clear rr ho hb
  go_upto_region 5 with fail
  generalize hwc : World.setCell (World.setCell (World.setCell w21 _ _) _ _) _ _ = wc
  have HP2 := HP.out wc (by rw [← hwc]; rfl)
  have HD := Lib.hid (HC1.out.turn HP2.1 HP2.2.1 HP2.2.2)
  generalize hwd : World.setCell wc _ _ = w12
  have HC2 := Lib.hid (show RlC w w12 (w.heap.size + 1 + 1) (w.heap.size + 1) w.heap.size l s2 #[sv v1, sv v2, (.string { data := #[] })] by rw [← hwd]; exact HD.out.setL rfl 1 _)
  clear hwc hwd HP HP2 HD HL HRR HAT x0 x1 x2 y0 y1 y2 z0 u0 HC1
  obtain ⟨A3, c3, r3, hbs⟩ := HC2.out.rd.ex
  have HAT := Lib.hid (HA3.out s2 HC2.out.rd.at_ _ HS3.out)
  have C := readDigest_st A3 l.length c3 l s2 w12 hbs.bs HC2.out.rd.at_ hn
  rw [HS3.out] at C
  have C := Lib.hid C
  unfold RSPost rv at C

  have x0 := r3.cellQ 0 _ rfl
  have x1 := r3.cellQ 1 _ rfl
  have x2 := r3.cellQ 2 _ rfl
  have HRR := Lib.hid r3
  clear r3 hbs
  go_wp2_with fail
  (with_reducible refine C.out.mono ?_)
  rintro e w22 ⟨B3, d3, ho, hb, rfl⟩
  have rr := HRR.out.belowS hb (Nat.le_refl _)
  have HL := Lib.hid (HC2.out.rl.belowS hb (Nat.le_refl _))
  have HP := Lib.hid (fun wd hd => hr_put (wd := wd) HC2.out.bel.size hb rr rfl HRR.out.lt HC2.out.rd.b1 HAT.out ho hd)
  clear x0 x1 x2 C
  have x0 := rr.cellQ 0 _ rfl
  have x1 := rr.cellQ 1 _ rfl
  have x2 := rr.cellQ 2 _ rfl
  have y0 := rr.frozen 0
  have y1 := rr.frozen 1
  have y2 := rr.frozen 2
  have z0 := HL.out.cellQ 2 _ rfl
  have u0 := HL.out.frozen 2
  clear rr ho hb
  go_upto_region 6 with fail
  generalize hwc : World.setCell (World.setCell (World.setCell w22 _ _) _ _) _ _ = wc
  have HP2 := HP.out wc (by rw [← hwc]; rfl)
  have HD := Lib.hid (HC2.out.turn HP2.1 HP2.2.1 HP2.2.2)
  generalize hwd : World.setCell wc _ _ = w13
  have HC3 := Lib.hid (show RlC w w13 (w.heap.size + 1 + 1) (w.heap.size + 1) w.heap.size l s3 #[sv v1, sv v2, sv v3] by rw [← hwd]; exact HD.out.setL rfl 2 _)
  clear hwc hwd HP HP2 HD HL HRR HAT x0 x1 x2 y0 y1 y2 z0 u0 HC2
  obtain ⟨Ag, cg, rg, CD⟩ := HC3.out.rd.doneC HDX.out
  have CD := Lib.hid CD
  have x0 := rg.cellQ 0 _ rfl
  have x1 := rg.cellQ 1 _ rfl
  have x2 := rg.cellQ 2 _ rfl
  clear rg
  go_wp2_with fail
  (with_reducible refine (CD.out _).mono ?_)
  rintro e w30 ⟨rfl, hb30⟩
  have HF := Lib.hid (HC3.out.keep hb30)
  clear hb30 x0 x1 x2 CD HC3
  have z0 := HF.out.rr.cellQ 0 _ rfl
  have z1 := HF.out.rr.cellQ 1 _ rfl
  have z2 := HF.out.rr.cellQ 2 _ rfl
  have u0 := HF.out.rr.frozen 0
  have u1 := HF.out.rr.frozen 1
  have u2 := HF.out.rr.frozen 2
  by_cases hd0 : dx = 0
  · subst hd0
    have HR1 := Lib.hid (show R = .ok ⟨v1, v2, v3⟩ by rw [← HR.out, if_neg (by simp)])
    have q0 := HF.out.rl.cellQ 0 _ rfl
    have q1 := HF.out.rl.cellQ 1 _ rfl
    have q2 := HF.out.rl.cellQ 2 _ rfl
    go_wp2
    generalize hwf : World.setCell (World.setCell (World.setCell w30 _ _) _ _) _ _ = wf
    have hsf : setFrom w.heap.size w30 0 [sv v1, sv v2, sv v3] = wf := by rw [← hwf]; rfl
    have hrow := HF.out.rr.all [sv v1, sv v2, sv v3] rfl
    rw [hsf] at hrow
    have r0 := hrow.cellQ 0 _ rfl
    have r1 := hrow.cellQ 1 _ rfl
    have r2 := hrow.cellQ 2 _ rfl
    refine bodyPost_ret (v := .tuple #[.agg #[sv v1, sv v2, sv v3], .int .i64 0]) (by simp [results, Tryd.results71, go_sem, r0, r1, r2]) rfl ?_
    have hbel : Below w.heap.size w wf := by rw [← hsf]; exact below_setFrom (Nat.le_refl _) _ 0 HF.out.bel
    rw [HR1.out]
    exact ⟨hbel, rfl⟩
  · have HR1 := Lib.hid (show R = .error dx by rw [← HR.out, if_pos hd0])
    have hdi : ((dx : Int) == 0) = false := beq_eq_false_iff_ne.2 (by omega)
    go_wp2
    generalize hwf : World.setCell (World.setCell (World.setCell w30 _ _) _ _) _ _ = wf
    have hsf : setFrom w.heap.size w30 0 [.string { data := #[] }, .string { data := #[] }, .string { data := #[] }] = wf := by rw [← hwf]; rfl
    have hrow := HF.out.rr.all [.string { data := #[] }, .string { data := #[] }, .string { data := #[] }] rfl
    rw [hsf] at hrow
    have r0 := hrow.cellQ 0 _ rfl
    have r1 := hrow.cellQ 1 _ rfl
    have r2 := hrow.cellQ 2 _ rfl
    refine bodyPost_ret (v := .tuple #[.agg #[.string { data := #[] }, .string { data := #[] }, .string { data := #[] }], .int .i64 (dx : Int)]) (by simp [results, Tryd.results71, go_sem, r0, r1, r2]) rfl ?_
    have hbel : Below w.heap.size w wf := by rw [← hsf]; exact below_setFrom (Nat.le_refl _) _ 0 HF.out.bel
    rw [HR1.out]
    exact ⟨hbel, rfl, hd0⟩
end Go.Proofs.YtfgpaepdlmnhaaaDoor

namespace Go.Proofs.YtfgpaepdlmnhaaaDoor
set_option maxRecDepth 100000
set_option linter.unusedVariables false
open Go.RowKit
namespace Hd
def k00 : Lk := ⟨[], [], []⟩
def kOf : Except Nat Lk → Lk
  | .ok h => h
  | .error _ => k00
def stLink (l : By) (s : RS) : RS × Lk := if (stText l 200 s).1.x ≠ 0 then ((stText l 200 s).1, k00) else (⟨(stText l 200 s).1.at_, xOf (rdLk (stText l 200 s).2)⟩, kOf (rdLk (stText l 200 s).2))
structure Pf where
  at_ : Int
  link : Lk
  path : List By
  docs : By
def stProof (l : By) (s : RS) : RS × Pf := ((stText l 4000 (stPath l (stLink l (stNum l s).1).1).1).1, ⟨((stNum l s).2 : Int), (stLink l (stNum l s).1).2, (stPath l (stLink l (stNum l s).1).1).2, (stText l 4000 (stPath l (stLink l (stNum l s).1).1).1).2⟩)
end Hd
theorem RLkPost.un {r : Except Nat Hd.Lk} {w : World} {e : Ending} {w' : World} (h : RLkPost r w e w') : e = .returned (.tuple #[.agg #[sv (Hd.kOf r).term, sv (Hd.kOf r).next, sv (Hd.kOf r).posts], .int .i64 (Hd.xOf r : Int)]) ∧ Below w.heap.size w w' := by
  cases r with
  | ok x => exact ⟨h.2, h.1⟩
  | error x => exact ⟨h.2.1, h.1⟩
set_option maxRecDepth 100000 in
set_option maxHeartbeats 8000000 in
theorem RRd.link {w : World} {B g : Nat} {l : List UInt8} {s s' : Hd.RS} {k' : Hd.Lk} (h : RRd w B g l s) (hn : l.length ≤ 1000000000) (e : Hd.stLink l s = (s', k')) : Calls Tryd.prog 99 #[.pointer (some ⟨g, 0, none⟩)] w (RRPost B g l s' (.agg #[sv k'.term, sv k'.next, sv k'.posts]) w) := by
  obtain ⟨⟨s1, v1⟩, hs1⟩ : ∃ r, Hd.stText l 200 s = r := ⟨_, rfl⟩
  have hv1 := Hd.stText_len l 200 s
  rw [show ((200 : Nat) : Int) = 200 from rfl, hs1] at hv1
  have hv1 : v1.length ≤ 200 := hv1
  unfold Hd.stLink at e
  rw [hs1] at e
  simp only at e
  have HM0 := Lib.hid (MC.start h #[.string { data := #[] }, .string { data := #[] }, .string { data := #[] }] 77 (by decide))
  obtain ⟨w1, hw1⟩ : ∃ w1, w.alloc (.cells #[.string { data := #[] }, .string { data := #[] }, .string { data := #[] }] 77) = w1 := ⟨_, rfl⟩
  rw [hw1] at HM0
  have HW1 := Lib.hid hw1
  have C := Lib.hid (HM0.out.rd.text 200 (by omega) (by omega) hn hs1)
  unfold RRPost at C
  clear h hs1 hw1
  go_enter Tryd.func99, Tryd.ntmps99
  go_upto_region 1 with fail
  rw [HW1.out]
  go_wp2_with fail
  (with_reducible refine C.out.mono ?_)
  rintro e w2 ⟨rfl, hr2, hb2, hk2⟩
  have HM1 := Lib.hid (HM0.out.turn hr2 hb2 hk2)
  clear hr2 hb2 hk2 C HM0
  obtain ⟨A2, c2, r2, hbs2⟩ := HM1.out.rd.ex
  have x2 := r2.cellQ 2 _ rfl
  clear r2 hbs2
  by_cases hx : s1.x = 0
  · rw [if_neg (by simp [hx])] at e
    have hx' : ((s1.x : Int) == 0) = true := by rw [hx]; rfl
    have hx2 : (s1.x : Int) = 0 := by omega
    obtain ⟨rh, hrh⟩ : ∃ r, Hd.rdLk v1 = r := ⟨_, rfl⟩
    rw [hrh] at e
    injection e with e1 e2
    subst e1 e2
    obtain ⟨hh, hhe⟩ : ∃ h, Hd.kOf rh = h := ⟨_, rfl⟩
    obtain ⟨xx, hxe⟩ : ∃ x, Hd.xOf rh = x := ⟨_, rfl⟩
    have CR := Lib.hid (show ∀ (A : Option Addr) (c : Nat) (W : World), Bs W A v1.length c v1 → Calls Tryd.prog 71 #[.slice A v1.length c] W fun e w' => e = .returned (.tuple #[.agg #[sv hh.term, sv hh.next, sv hh.posts], .int .i64 (xx : Int)]) ∧ Below W.heap.size W w' from fun A c W hb => by
      have := rlink_any A v1.length c v1 W hb (by omega)
      rw [hrh] at this
      refine this.mono fun e w' hp => ?_
      have := hp.un
      rw [hhe, hxe] at this
      exact this)
    have HHE := Lib.hid hhe
    have HXE := Lib.hid hxe
    clear hrh hhe hxe
    go_upto_region 4 with fail
    clear x2
    go_wp2_with (refine wl_bytesT rfl 9 30 (.tmp 16) rfl Tryd.underlying9 Tryd.underlying30 Tryd.underlying5 v1 rfl (by rw [maxLen_eq]; omega) ?_; intro A3 c3 w3 ht3 hb3; have HT3 := Lib.hid ht3; have HM3 := Lib.hid (HM1.out.keep hb3); clear ht3 hb3)
    (with_reducible refine (CR.out _ _ _ HT3.out.bs).mono ?_)
    rintro e w4 ⟨rfl, hb4⟩
    have HM4 := Lib.hid (HM3.out.keep hb4)
    clear hb4 HM3 HT3 CR
    go_upto_region 5 with fail
    have hwd := (Below.refl w4.heap.size w4).alloc (Nat.le_refl _) (.cells #[sv hh.term, sv hh.next, sv hh.posts] 77)
    have hrow := row_new w4 #[sv hh.term, sv hh.next, sv hh.posts] 77
    obtain ⟨w5, hw5⟩ : ∃ W, w4.alloc (.cells #[sv hh.term, sv hh.next, sv hh.posts] 77) = W := ⟨_, rfl⟩
    rw [hw5] at hwd hrow ⊢
    have HM5 := Lib.hid (HM4.out.keep hwd)
    have HR5 := Lib.hid hrow
    clear hw5 hwd hrow HM4
    obtain ⟨A5, c5, r5, hbs5⟩ := HM5.out.rd.ex
    have HNE := Lib.hid (row_ne HR5.out r5 (by decide))
    have x2 := r5.cellQ 2 _ rfl
    have y2 := r5.frozen 2
    clear r5 hbs5
    go_upto_region 6 with fail
    generalize hwd : World.setCell w5 _ _ = w6
    have HM6 := Lib.hid (show MC w w6 B g l ⟨s1.at_, xx⟩ w.heap.size #[.string { data := #[] }, .string { data := #[] }, .string { data := #[] }] 77 by rw [← hwd]; exact HM5.out.setE xx)
    have HR6 := Lib.hid (show Row w6 w4.heap.size #[sv hh.term, sv hh.next, sv hh.posts] 77 by rw [← hwd]; exact HR5.out.far g 2 _ HNE.out)
    clear hwd x2 y2 HM5 HR5
    have q0 := HR6.out.cellQ 0 _ rfl
    have q1 := HR6.out.cellQ 1 _ rfl
    have q2 := HR6.out.cellQ 2 _ rfl
    have z0 := HM6.out.row.cellQ 0 _ rfl
    have z1 := HM6.out.row.cellQ 1 _ rfl
    have z2 := HM6.out.row.cellQ 2 _ rfl
    have y0 := HM6.out.row.frozen 0
    have y1 := HM6.out.row.frozen 1
    have y2 := HM6.out.row.frozen 2
    go_wp2
    generalize hwf : World.setCell (World.setCell (World.setCell w6 _ _) _ _) _ _ = wf
    have HF := MC.allR HM6.out rfl [sv hh.term, sv hh.next, sv hh.posts] rfl
    have hsf : setFrom w.heap.size w6 0 [sv hh.term, sv hh.next, sv hh.posts] = wf := by rw [← hwf]; rfl
    rw [hsf] at HF
    have r0 := HF.row.cellQ 0 _ rfl
    have r1 := HF.row.cellQ 1 _ rfl
    have r2 := HF.row.cellQ 2 _ rfl
    refine bodyPost_ret (v := .agg #[sv hh.term, sv hh.next, sv hh.posts]) (by simp [results, Tryd.results99, go_sem, r0, r1, r2]) rfl ?_
    rw [HHE.out, HXE.out]
    exact ⟨rfl, HF.rd, HF.bel, HF.kp⟩
  · rw [if_pos hx] at e
    injection e with e1 e2
    subst e1 e2
    have hx' : ((s1.x : Int) == 0) = false := beq_eq_false_iff_ne.2 (by omega)
    have z0 := HM1.out.row.cellQ 0 _ rfl
    have z1 := HM1.out.row.cellQ 1 _ rfl
    have z2 := HM1.out.row.cellQ 2 _ rfl
    have y0 := HM1.out.row.frozen 0
    have y1 := HM1.out.row.frozen 1
    have y2 := HM1.out.row.frozen 2
    go_wp2
    generalize hwf : World.setCell (World.setCell (World.setCell w2 _ _) _ _) _ _ = wf
    have HF := MC.allR HM1.out rfl [.string { data := #[] }, .string { data := #[] }, .string { data := #[] }] rfl
    rw [show setFrom w.heap.size w2 0 [.string { data := #[] }, .string { data := #[] }, .string { data := #[] }] = wf by rw [← hwf]; rfl] at HF
    have r0 := HF.row.cellQ 0 _ rfl
    have r1 := HF.row.cellQ 1 _ rfl
    have r2 := HF.row.cellQ 2 _ rfl
    refine bodyPost_ret (v := .agg #[.string { data := #[] }, .string { data := #[] }, .string { data := #[] }]) (by simp [results, Tryd.results99, go_sem, r0, r1, r2]) rfl ?_
    exact ⟨rfl, HF.rd, HF.bel, HF.kp⟩
/-- A proof in memory. -/
structure PfAt (w : World) (b : Nat) (Ap : Option Addr) (np cp : Nat) (Ad : Option Addr) (nd cd : Nat) (p : Hd.Pf) : Prop where
  path : OwnS w b Ap np cp p.path
  docs : Ty8 w b Ad nd cd p.docs
def pfv (Ap : Option Addr) (np cp : Nat) (Ad : Option Addr) (nd cd : Nat) (p : Hd.Pf) : Value := .agg #[.int .i64 p.at_, sv p.link.term, sv p.link.next, sv p.link.posts, .slice Ap np cp, .slice Ad nd cd]
def isPf (b : Nat) (p : Hd.Pf) (v : Value) (w : World) : Prop := ∃ Ap np cp Ad nd cd, v = pfv Ap np cp Ad nd cd p ∧ PfAt w b Ap np cp Ad nd cd p
/-- What stands in a proof's reading. -/
structure RfC (w W : World) (B g : Nat) (l : List UInt8) (s : Hd.RS) (gr gp : Nat) (ps : Array Value) : Prop where
  m : MC w W B g l s gr #[(.int .i64 0), (.string { data := #[] }), (.string { data := #[] }), (.string { data := #[] }), (.slice none 0 0), (.slice none 0 0)] 79
  rp : Row W gp ps 79
  gp0 : w.heap.size ≤ gp
  ne : gr ≠ gp
section
variable {w W W' : World} {B g gr gp : Nat} {l : List UInt8} {s s' : Hd.RS} {ps : Array Value}
theorem RfC.keep (h : RfC w W B g l s gr gp ps) (hb : Below W.heap.size W W') : RfC w W' B g l s gr gp ps := ⟨h.m.keep hb, h.rp.belowS hb (Nat.le_refl _), h.gp0, h.ne⟩
theorem RfC.turn (h : RfC w W B g l s gr gp ps) (hr : RRd W' B g l s') (hb : Below B W W') (k : KeepTy SRR W W') : RfC w W' B g l s' gr gp ps := ⟨h.m.turn hr hb k, h.rp.keepTy (by decide) k, h.gp0, h.ne⟩
theorem RfC.setP (h : RfC w W B g l s gr gp ps) (hu : ps.toList.all notU8 = true) (j : Nat) (v : Value) : RfC w (W.setCell ⟨gp, j, none⟩ v) B g l s gr gp (ps.setIfInBounds j v) :=
  ⟨⟨RRd.setF h.m.rd h.rp (by decide) hu (by decide) [v] j, h.m.row.far gp j v h.ne, h.m.bel.setCell (p := ⟨gp, j, none⟩) (Nat.le_trans h.m.hB h.gp0) v, h.m.kp.far h.gp0 j v, h.m.gr0, h.m.tn, h.m.hB⟩, h.rp.set j v, h.gp0, h.ne⟩
end
set_option maxRecDepth 100000 in
set_option maxHeartbeats 16000000 in
theorem RRd.proof {w : World} {B g : Nat} {l : List UInt8} {s s' : Hd.RS} {p : Hd.Pf} (h : RRd w B g l s) (hn : l.length ≤ 1000000000) (e : Hd.stProof l s = (s', p)) : Calls Tryd.prog 55 #[.pointer (some ⟨g, 0, none⟩)] w (RRPostV B g l s' (isPf w.heap.size p) w) := by
  obtain ⟨⟨s1, v1⟩, hs1⟩ : ∃ r, Hd.stNum l s = r := ⟨_, rfl⟩
  obtain ⟨⟨s2, v2⟩, hs2⟩ : ∃ r, Hd.stLink l s1 = r := ⟨_, rfl⟩
  obtain ⟨⟨s3, v3⟩, hs3⟩ : ∃ r, Hd.stPath l s2 = r := ⟨_, rfl⟩
  obtain ⟨⟨s4, v4⟩, hs4⟩ : ∃ r, Hd.stText l 4000 s3 = r := ⟨_, rfl⟩
  have hv4 := Hd.stText_len l 4000 s3
  rw [show ((4000 : Nat) : Int) = 4000 from rfl, hs4] at hv4
  have hv4 : v4.length ≤ 4000 := hv4
  unfold Hd.stProof at e
  simp only [hs1, hs2, hs3, hs4] at e
  injection e with e1 e2
  subst e1 e2
  have hm := MC.start h #[(.int .i64 0), (.string { data := #[] }), (.string { data := #[] }), (.string { data := #[] }), (.slice none 0 0), (.slice none 0 0)] 79 (by decide)
  obtain ⟨w1, hw1⟩ : ∃ W, w.alloc (.cells #[(.int .i64 0), (.string { data := #[] }), (.string { data := #[] }), (.string { data := #[] }), (.slice none 0 0), (.slice none 0 0)] 79) = W := ⟨_, rfl⟩
  rw [hw1] at hm
  have hb2 := (Below.refl w1.heap.size w1).alloc (Nat.le_refl _) (.cells #[(.int .i64 0), (.string { data := #[] }), (.string { data := #[] }), (.string { data := #[] }), (.slice none 0 0), (.slice none 0 0)] 79)
  have hr2 := row_new w1 #[(.int .i64 0), (.string { data := #[] }), (.string { data := #[] }), (.string { data := #[] }), (.slice none 0 0), (.slice none 0 0)] 79
  have hlt := hm.row.lt
  obtain ⟨w2, hw2⟩ : ∃ W, w1.alloc (.cells #[(.int .i64 0), (.string { data := #[] }), (.string { data := #[] }), (.string { data := #[] }), (.slice none 0 0), (.slice none 0 0)] 79) = W := ⟨_, rfl⟩
  rw [hw2] at hb2 hr2
  have HC0 := Lib.hid (show RfC w w2 B g l s w.heap.size w1.heap.size #[(.int .i64 0), (.string { data := #[] }), (.string { data := #[] }), (.string { data := #[] }), (.slice none 0 0), (.slice none 0 0)] from ⟨hm.keep hb2, hr2, Nat.le_of_lt hlt, by omega⟩)
  have HW1 := Lib.hid hw1
  have HW2 := Lib.hid hw2
  have HS1 := Lib.hid hs1
  have HS2 := Lib.hid hs2
  have HS3 := Lib.hid hs3
  have HS4 := Lib.hid hs4
  clear hs1 hs2 hs3 hs4 hm hb2 hr2 hw1 hw2 h
  go_enter Tryd.func55, Tryd.ntmps55
  go_upto_region 1 with fail
  rw [HW1.out]
  go_upto_region 2 with fail
  rw [HW2.out]
  clear HW1 HW2
  obtain ⟨gp, hgp⟩ : ∃ g, w1.heap.size = g := ⟨_, rfl⟩
  rw [hgp] at HC0 ⊢
  clear hgp hlt
  have C := Lib.hid (HC0.out.m.rd.num hn HS1.out)
  unfold RRPost at C
  go_wp2_with fail
  (with_reducible refine C.out.mono ?_)
  rintro e w10 ⟨rfl, hr, hb, hk⟩
  have HD0 := Lib.hid (HC0.out.turn hr hb hk)
  clear hr hb hk C HC0
  have x0 := HD0.out.rp.cellQ 0 _ rfl
  have y0 := HD0.out.rp.frozen 0
  go_upto_region 3 with fail
  generalize hwd : World.setCell w10 _ _ = w20
  have HC1 := Lib.hid (show RfC w w20 B g l s1 w.heap.size gp #[.int .i64 (v1 : Int), .string { data := #[] }, .string { data := #[] }, .string { data := #[] }, .slice none 0 0, .slice none 0 0] by rw [← hwd]; exact (HD0.out.setP rfl 0 (.int .i64 (v1 : Int))))
  clear hwd HD0 x0 y0
  have C := Lib.hid (HC1.out.m.rd.link hn HS2.out)
  unfold RRPost at C
  go_wp2_with fail
  (with_reducible refine C.out.mono ?_)
  rintro e w11 ⟨rfl, hr, hb, hk⟩
  have HD1 := Lib.hid (HC1.out.turn hr hb hk)
  clear hr hb hk C HC1
  have x1 := HD1.out.rp.cellQ 1 _ rfl
  have y1 := HD1.out.rp.frozen 1
  have x2 := HD1.out.rp.cellQ 2 _ rfl
  have y2 := HD1.out.rp.frozen 2
  have x3 := HD1.out.rp.cellQ 3 _ rfl
  have y3 := HD1.out.rp.frozen 3
  go_upto_region 4 with fail
  generalize hwd : World.setCell (World.setCell (World.setCell w11 _ _) _ _) _ _ = w21
  have HC2 := Lib.hid (show RfC w w21 B g l s2 w.heap.size gp #[.int .i64 (v1 : Int), sv v2.term, sv v2.next, sv v2.posts, .slice none 0 0, .slice none 0 0] by rw [← hwd]; exact (((HD1.out.setP rfl 1 (sv v2.term)).setP rfl 2 (sv v2.next)).setP rfl 3 (sv v2.posts)))
  clear hwd HD1 x1 y1 x2 y2 x3 y3
  have C := Lib.hid (HC2.out.m.rd.path hn HS3.out)
  unfold RRPostV at C
  go_wp2_with fail
  (with_reducible refine C.out.mono ?_)
  rintro e w12 ⟨_, rfl, ⟨A2, n2, c2, rfl, hq⟩, hr, hb, hk⟩
  have HD2 := Lib.hid (HC2.out.turn hr hb hk)
  have HQ2 := Lib.hid (hq.base (show w.heap.size ≤ w21.heap.size from HC2.out.m.kp.size))
  clear hq
  clear hr hb hk C HC2
  have x4 := HD2.out.rp.cellQ 4 _ rfl
  have y4 := HD2.out.rp.frozen 4
  go_upto_region 5 with fail
  generalize hwd : World.setCell w12 _ _ = w22
  have HC3 := Lib.hid (show RfC w w22 B g l s3 w.heap.size gp #[.int .i64 (v1 : Int), sv v2.term, sv v2.next, sv v2.posts, .slice A2 n2 c2, .slice none 0 0] by rw [← hwd]; exact (HD2.out.setP rfl 4 (.slice A2 n2 c2)))
  replace HQ2 := Lib.hid (show _ from HQ2.out.setF HD2.out.rp (by decide) [.slice A2 n2 c2] 4)
  rw [show setFrom gp w12 4 [.slice A2 n2 c2] = w22 by rw [← hwd]; rfl] at HQ2
  clear hwd HD2 x4 y4
  have C := Lib.hid (RRd.text 4000 (by omega) (by omega) HC3.out.m.rd hn HS4.out)
  unfold RRPost at C
  go_wp2_with fail
  (with_reducible refine C.out.mono ?_)
  rintro e w13 ⟨rfl, hr, hb, hk⟩
  have HD3 := Lib.hid (HC3.out.turn hr hb hk)
  replace HQ2 := Lib.hid (HQ2.out.keepTy (by decide) hk)
  clear hr hb hk C HC3
  have x5 := HD3.out.rp.cellQ 5 _ rfl
  have y5 := HD3.out.rp.frozen 5
  have HSZ := Lib.hid (show w.heap.size ≤ w13.heap.size from HD3.out.m.kp.size)
  go_upto_region 6 with (refine wl_bytesT rfl 9 30 (.tmp 14) rfl Tryd.underlying9 Tryd.underlying30 Tryd.underlying5 v4 rfl (by rw [maxLen_eq]; omega) ?_; intro A3 c3 wt ht hbt; replace HD3 := Lib.hid (HD3.out.keep hbt); replace HQ2 := Lib.hid (HQ2.out.keep hbt); have HQ3 := Lib.hid (ht.base HSZ.out); clear ht hbt x5 y5; have x5 := HD3.out.rp.cellQ 5 _ rfl; have y5 := HD3.out.rp.frozen 5)
  generalize hwd : World.setCell wt _ _ = w23
  have HC4 := Lib.hid (show RfC w w23 B g l s4 w.heap.size gp #[.int .i64 (v1 : Int), sv v2.term, sv v2.next, sv v2.posts, .slice A2 n2 c2, .slice A3 v4.length c3] by rw [← hwd]; exact (HD3.out.setP rfl 5 (.slice A3 v4.length c3)))
  replace HQ2 := Lib.hid (show _ from HQ2.out.setF HD3.out.rp (by decide) [.slice A3 v4.length c3] 5)
  rw [show setFrom gp wt 5 [.slice A3 v4.length c3] = w23 by rw [← hwd]; rfl] at HQ2
  replace HQ3 := Lib.hid (show _ from HQ3.out.setF HD3.out.rp (by decide) [.slice A3 v4.length c3] 5)
  rw [show setFrom gp wt 5 [.slice A3 v4.length c3] = w23 by rw [← hwd]; rfl] at HQ3
  clear hwd HD3 x5 y5 HSZ
  have z0 := HC4.out.m.row.cellQ 0 _ rfl
  have u0 := HC4.out.m.row.frozen 0
  have q0 := HC4.out.rp.cellQ 0 _ rfl
  have z1 := HC4.out.m.row.cellQ 1 _ rfl
  have u1 := HC4.out.m.row.frozen 1
  have q1 := HC4.out.rp.cellQ 1 _ rfl
  have z2 := HC4.out.m.row.cellQ 2 _ rfl
  have u2 := HC4.out.m.row.frozen 2
  have q2 := HC4.out.rp.cellQ 2 _ rfl
  have z3 := HC4.out.m.row.cellQ 3 _ rfl
  have u3 := HC4.out.m.row.frozen 3
  have q3 := HC4.out.rp.cellQ 3 _ rfl
  have z4 := HC4.out.m.row.cellQ 4 _ rfl
  have u4 := HC4.out.m.row.frozen 4
  have q4 := HC4.out.rp.cellQ 4 _ rfl
  have z5 := HC4.out.m.row.cellQ 5 _ rfl
  have u5 := HC4.out.m.row.frozen 5
  have q5 := HC4.out.rp.cellQ 5 _ rfl
  go_wp2
  generalize hwf : World.setCell (World.setCell (World.setCell (World.setCell (World.setCell (World.setCell w23 _ _) _ _) _ _) _ _) _ _) _ _ = wf
  have hsf : setFrom w.heap.size w23 0 [.int .i64 (v1 : Int), sv v2.term, sv v2.next, sv v2.posts, .slice A2 n2 c2, .slice A3 v4.length c3] = wf := by rw [← hwf]; rfl
  have HF := MC.allR HC4.out.m rfl [.int .i64 (v1 : Int), sv v2.term, sv v2.next, sv v2.posts, .slice A2 n2 c2, .slice A3 v4.length c3] rfl
  rw [hsf] at HF
  have r0 := HF.row.cellQ 0 _ rfl
  have r1 := HF.row.cellQ 1 _ rfl
  have r2 := HF.row.cellQ 2 _ rfl
  have r3 := HF.row.cellQ 3 _ rfl
  have r4 := HF.row.cellQ 4 _ rfl
  have r5 := HF.row.cellQ 5 _ rfl
  refine bodyPost_ret (v := .agg #[.int .i64 (v1 : Int), sv v2.term, sv v2.next, sv v2.posts, .slice A2 n2 c2, .slice A3 v4.length c3]) (by simp [results, Tryd.results55, go_sem, r0, r1, r2, r3, r4, r5]) rfl ?_
  exact ⟨_, rfl, ⟨A2, n2, c2, A3, _, c3, rfl, ⟨by rw [← hsf]; exact HQ2.out.setF HC4.out.m.row (by decide) _ 0, by rw [← hsf]; exact HQ3.out.setF HC4.out.m.row (by decide) _ 0⟩⟩, HF.rd, HF.bel, HF.kp⟩
end Go.Proofs.YtfgpaepdlmnhaaaDoor

namespace Go.Proofs.YtfgpaepdlmnhaaaDoor
set_option maxRecDepth 100000
set_option linter.unusedVariables false
open Go.RowKit
namespace Hd
def wProof (s : WS) (p : Pf) : WS := match p.link.wr with
  | none => ⟨(wNum s p.at_).l, true⟩
  | some b => wText (wPath (wText (wNum s p.at_) b 200) p.path) p.docs 4000
theorem wProof_len (s : WS) (p : Pf) : (wProof s p).l.length ≤ s.l.length + 7000 := by
  unfold wProof
  have h1 := wNum_len s p.at_
  cases p.link.wr with
  | none => show (wNum s p.at_).l.length ≤ _; omega
  | some b =>
    have h2 := wText_len (wNum s p.at_) b 200 (by omega)
    have h3 := wPath_len (wText (wNum s p.at_) b 200) p.path
    have h4 := wText_len (wPath (wText (wNum s p.at_) b 200) p.path) p.docs 4000 (by omega)
    show (wText (wPath (wText (wNum s p.at_) b 200) p.path) p.docs 4000).l.length ≤ _
    omega
end Hd
/-- What stands in the writing of a proof. -/
structure WfC (w W : World) (B g gp : Nat) (ps : Array Value) (s : Hd.WS) : Prop where
  ww : WW W B g s
  row : Row W gp ps 79
  bel : Below B w W
  kp : KeepTy SWR w W
theorem WfC.turn {w W W' : World} {B g gp : Nat} {ps : Array Value} {s s' : Hd.WS} (h : WfC w W B g gp ps s) (hw : WW W' B g s') (hb : Below B W W') (hk : KeepTy SWR W W') : WfC w W' B g gp ps s' := ⟨hw, h.row.keepTy (by decide) hk, h.bel.trans hb, h.kp.trans hk⟩
theorem WfC.keep {w W W' : World} {B g gp : Nat} {ps : Array Value} {s : Hd.WS} (h : WfC w W B g gp ps s) (hb : Below W.heap.size W W') : WfC w W' B g gp ps s := ⟨h.ww.keep hb, h.row.belowS hb (Nat.le_refl _), h.bel.trans (hb.mono h.ww.le), h.kp.trans (KeepTy.of hb)⟩
set_option maxRecDepth 100000 in
set_option maxHeartbeats 16000000 in
theorem WW.proof {w : World} {B g : Nat} {s s' : Hd.WS} {Ap : Option Addr} {np cp : Nat} {Ad : Option Addr} {nd cd : Nat} {p : Hd.Pf} (h : WW w B g s) (hl : s.l.length ≤ 100000000000) (h1 : -9223372036854775808 ≤ p.at_) (h2 : p.at_ ≤ 9223372036854775807) (hp : ∀ W, Below B w W → Ss W Ap np cp p.path) (hpl : ∀ d ∈ p.path, d.length ≤ 1000000) (hd : ∀ W, Below B w W → Bs W Ad nd cd p.docs) (e : Hd.wProof s p = s') : Calls Tryd.prog 43 #[.pointer (some ⟨g, 0, none⟩), .agg #[.int .i64 p.at_, sv p.link.term, sv p.link.next, sv p.link.posts, .slice Ap np cp, .slice Ad nd cd]] w (WWPost B g s' w) := by
  have hB := h.le
  have hbz := (Below.refl w.heap.size w).alloc (Nat.le_refl _) (.cells #[.int .i64 p.at_, sv p.link.term, sv p.link.next, sv p.link.posts, .slice Ap np cp, .slice Ad nd cd] 79)
  have hrz := row_new w #[.int .i64 p.at_, sv p.link.term, sv p.link.next, sv p.link.posts, .slice Ap np cp, .slice Ad nd cd] 79
  obtain ⟨w1, hw1⟩ : ∃ W, w.alloc (.cells #[.int .i64 p.at_, sv p.link.term, sv p.link.next, sv p.link.posts, .slice Ap np cp, .slice Ad nd cd] 79) = W := ⟨_, rfl⟩
  rw [hw1] at hbz hrz
  have HW1 := Lib.hid hw1
  have HC0 := Lib.hid (show WfC w w1 B g w.heap.size #[.int .i64 p.at_, sv p.link.term, sv p.link.next, sv p.link.posts, .slice Ap np cp, .slice Ad nd cd] s from ⟨h.keep hbz, hrz, hbz.mono hB, KeepTy.of hbz⟩)
  obtain ⟨s1, hs1⟩ : ∃ r, Hd.wNum s p.at_ = r := ⟨_, rfl⟩
  have hl1 := Hd.wNum_len s p.at_
  rw [hs1] at hl1
  have CN := Lib.hid (WW.num p.at_ h1 h2 HC0.out.ww (by omega) hs1)
  unfold WWPost at CN
  have CL := Lib.hid (fun W => wlink_any p.link W)
  have HP := Lib.hid hp
  have HD := Lib.hid hd
  unfold Hd.wProof at e
  rw [hs1] at e
  clear hbz hrz hw1 hs1 h hp hd
  cases ho : p.link.wr with
  | none =>
    rw [ho] at e CL
    unfold WPost at CL
    simp only at e CL
    subst e
    clear ho
    go_enter Tryd.func43, Tryd.ntmps43
    go_upto_region 1 with fail
    rw [HW1.out]
    have x0 := HC0.out.row.cellQ 0 _ rfl
    go_wp2_with fail
    (with_reducible refine CN.out.mono ?_)
    rintro e w2 ⟨⟨v2, rfl⟩, hw, hb, hk⟩
    have HC1 := Lib.hid (HC0.out.turn hw hb hk)
    clear hw hb hk CN HC0 x0 HW1
    have x1 := HC1.out.row.cellQ 1 _ rfl
    have x2 := HC1.out.row.cellQ 2 _ rfl
    have x3 := HC1.out.row.cellQ 3 _ rfl
    go_wp2_with fail
    (with_reducible refine (CL.out _).mono ?_)
    rintro e w3 ⟨rfl, hb3⟩
    have HC2 := Lib.hid (HC1.out.keep hb3)
    clear hb3 x1 x2 x3 HC1
    obtain ⟨A1, n1, c1, r1, ho1⟩ := HC2.out.ww.ex
    have x1 := r1.cellQ 1 _ rfl
    have y1 := r1.frozen 1
    have HB := Lib.hid (ww_bad HC2.out.ww)
    clear r1 ho1
    go_wp2
    go_end0
    exact ⟨⟨_, rfl⟩, HB.out.1, HC2.out.bel.trans HB.out.2.1, HC2.out.kp.trans HB.out.2.2⟩
  | some b =>
    rw [ho] at e CL
    unfold WPost at CL
    simp only at e CL
    obtain ⟨s2, hs2⟩ : ∃ r, Hd.wText s1 b 200 = r := ⟨_, rfl⟩
    have hl2 := Hd.wText_len s1 b 200 (by omega)
    rw [hs2] at hl2 e
    obtain ⟨s3, hs3⟩ : ∃ r, Hd.wPath s2 p.path = r := ⟨_, rfl⟩
    have hl3 := Hd.wPath_len s2 p.path
    rw [hs3] at hl3 e
    have HS2 := Lib.hid hs2
    have HS3 := Lib.hid hs3
    have HS4 := Lib.hid e
    clear ho hs2 hs3 e
    go_enter Tryd.func43, Tryd.ntmps43
    go_upto_region 1 with fail
    rw [HW1.out]
    have x0 := HC0.out.row.cellQ 0 _ rfl
    go_wp2_with fail
    (with_reducible refine CN.out.mono ?_)
    rintro e w2 ⟨⟨v2, rfl⟩, hw, hb, hk⟩
    have HC1 := Lib.hid (HC0.out.turn hw hb hk)
    clear hw hb hk CN HC0 x0 HW1
    have x1 := HC1.out.row.cellQ 1 _ rfl
    have x2 := HC1.out.row.cellQ 2 _ rfl
    have x3 := HC1.out.row.cellQ 3 _ rfl
    go_wp2_with fail
    (with_reducible refine (CL.out _).mono ?_)
    rintro e w3 ⟨A2, n2, c2, rfl, ho2, hb3⟩
    have HC2 := Lib.hid (HC1.out.keep hb3)
    have CT := WW.text 200 (by omega) HC2.out.ww (by omega) ho2.bs HS2.out
    rw [show ((200 : Nat) : Int) = 200 from rfl] at CT
    have CT := Lib.hid CT
    unfold WWPost at CT
    clear hb3 ho2 x1 x2 x3 HC1
    go_wp2_with fail
    (with_reducible refine CT.out.mono ?_)
    rintro e w4 ⟨⟨v4, rfl⟩, hw, hb, hk⟩
    have HC3 := Lib.hid (HC2.out.turn hw hb hk)
    clear hw hb hk CT HC2
    have x4 := HC3.out.row.cellQ 4 _ rfl
    have CP := Lib.hid (WW.path HC3.out.ww (by omega) (fun W hW => HP.out W (HC3.out.bel.trans hW)) hpl HS3.out)
    unfold WWPost at CP
    go_wp2_with fail
    (with_reducible refine CP.out.mono ?_)
    rintro e w5 ⟨⟨v5, rfl⟩, hw, hb, hk⟩
    have HC4 := Lib.hid (HC3.out.turn hw hb hk)
    clear hw hb hk CP HC3 x4
    have x5 := HC4.out.row.cellQ 5 _ rfl
    have CD := WW.text 4000 (by omega) HC4.out.ww (by omega) (HD.out _ HC4.out.bel) HS4.out
    rw [show ((4000 : Nat) : Int) = 4000 from rfl] at CD
    have CD := Lib.hid CD
    unfold WWPost at CD
    go_wp2_with fail
    (with_reducible refine CD.out.mono ?_)
    rintro e w6 ⟨⟨v6, rfl⟩, hw, hb, hk⟩
    have HC5 := Lib.hid (HC4.out.turn hw hb hk)
    clear hw hb hk CD HC4 x5
    go_wp2
    go_end0
    exact ⟨⟨_, rfl⟩, HC5.out.ww, HC5.out.bel, HC5.out.kp⟩
end Go.Proofs.YtfgpaepdlmnhaaaDoor

namespace Go.Proofs.YtfgpaepdlmnhaaaDoor
set_option maxRecDepth 100000
set_option linter.unusedVariables false
open Go.RowKit
/-- A proof, and where its parts lie; a row of them. -/
structure PfD where
  p : Hd.Pf
  ap : Option Addr
  np : Nat
  cp : Nat
  ad : Option Addr
  nd : Nat
  cd : Nat
structure RwD where
  a : Option Addr
  n : Nat
  c : Nat
  l : List PfD
def pfc (d : PfD) : List Value := [.int .i64 d.p.at_, sv d.p.link.term, sv d.p.link.next, sv d.p.link.posts, .slice d.ap d.np d.cp, .slice d.ad d.nd d.cd]
theorem pfc_len (d : PfD) : (pfc d).length = 6 := rfl
def rwc (r : RwD) : List Value := [.slice r.a r.n r.c]
theorem rwc_len (r : RwD) : (rwc r).length = 1 := rfl
structure InPf (W : World) (d : PfD) : Prop where
  s : Ss W d.ap d.np d.cp d.p.path
  b : Bs W d.ad d.nd d.cd d.p.docs
structure InRow (W : World) (r : RwD) : Prop where
  q : Sq pfc 6 W r.a r.n r.c r.l
  i : ∀ d ∈ r.l, InPf W d
structure InRows (W : World) (A : Option Addr) (n c : Nat) (L : List RwD) : Prop where
  q : Sq rwc 1 W A n c L
  i : ∀ r ∈ L, InRow W r
theorem InPf.keep {W W' : World} {d : PfD} (h : InPf W d) (hb : Below W.heap.size W W') : InPf W' d := ⟨h.s.keep hb, h.b.keep hb⟩
theorem InRow.keep {W W' : World} {r : RwD} (h : InRow W r) (hb : Below W.heap.size W W') : InRow W' r := ⟨h.q.keep hb, fun d hd => (h.i d hd).keep hb⟩
theorem InRows.keep {W W' : World} {A : Option Addr} {n c : Nat} {L : List RwD} (h : InRows W A n c L) (hb : Below W.heap.size W W') : InRows W' A n c L := ⟨h.q.keep hb, fun r hr => (h.i r hr).keep hb⟩
namespace Hd
structure An where
  h : H
  rows : List (List Pf)
def wRow (s : WS) (l : List Pf) : WS := l.foldl wProof (wNum s (l.length : Int))
def wRows (s : WS) : List (List Pf) → Option WS
  | [] => some s
  | l :: ls => if 16 < l.length then none else wRows (wRow s l) ls
def finO : Option WS → Except Nat By
  | none => .error 1
  | some s => wEnd s
def wrAns (a : An) : Except Nat By := if a.rows.length ≠ a.h.segs.length then .error 1 else finO (wRows (wHead ⟨[1], false⟩ a.h) a.rows)
/-- What a proof may hold, for its walk. -/
structure Pf.Small (p : Pf) : Prop where
  a1 : -9223372036854775808 ≤ p.at_
  a2 : p.at_ ≤ 9223372036854775807
  pl : ∀ d ∈ p.path, d.length ≤ 1000000
end Hd
def RwD.ps (r : RwD) : List Hd.Pf := r.l.map PfD.p
theorem ww_fin {w W : World} {g : Nat} {s : Hd.WS} {r : Except Nat (List UInt8)} (h : WW W w.heap.size g s) (hb : Below w.heap.size w W) (e : Hd.wEnd s = r) : Calls Tryd.prog 44 #[.pointer (some ⟨g, 0, none⟩)] W fun e w' => w' = W ∧ WrPost r w e w' ∧ ∃ A n c x, e = .returned (.tuple #[.slice A n c, .int .i64 x]) := by
  subst e
  refine h.fin.mono fun e w' ⟨h1, h2⟩ => ⟨h1, ⟨by rw [h1]; exact hb, ?_⟩, ?_⟩
  · rw [h1]
    cases hr : Hd.wEnd s with
    | ok l => rw [hr] at h2; exact h2
    | error x => rw [hr] at h2; exact h2
  · cases hr : Hd.wEnd s with
    | ok l => rw [hr] at h2; obtain ⟨A, n, c, h3, _⟩ := h2; exact ⟨A, n, c, 0, h3⟩
    | error x => rw [hr] at h2; exact ⟨none, 0, 0, _, h2⟩
set_option maxRecDepth 100000 in
set_option maxHeartbeats 32000000 in
theorem wr_ans {w : World} {As : Option Addr} {ns cs : Nat} {A : Option Addr} {n c : Nat} (a : Hd.An) (L : List RwD) (hL : L.map RwD.ps = a.rows) (hs : ∀ W, Below w.heap.size w W → Sq sgc 4 W As ns cs a.h.segs) (hrt : ∀ s ∈ a.h.segs, s.rt.length ≤ 1000) (hlog : a.h.log.length ≤ 1000) (hr : ∀ W, Below w.heap.size w W → InRows W A n c L) (hsm : ∀ l ∈ a.rows, ∀ p ∈ l, p.Small) (hn : L.length ≤ 1000) : Calls Tryd.prog 10 #[.agg #[.int .i64 a.h.size, sv a.h.log, .slice As ns cs, .slice A n c]] w (WrPost (Hd.wrAns a) w) := by
  have hln := (hr w (Below.refl _ _)).q.len
  have hcp := (hr w (Below.refl _ _)).q.cap
  have hmx := (hr w (Below.refl _ _)).q.max
  have hlns := (hs w (Below.refl _ _)).len
  have hrl : a.rows.length = n := by rw [← hL, List.length_map, hln]
  rw [maxLen_eq] at hmx
  obtain ⟨s1, hs1⟩ : ∃ r, Hd.wHead ⟨[1], false⟩ a.h = r := ⟨_, rfl⟩
  have hl1 := Hd.wHead_len ⟨[1], false⟩ a.h
  rw [hs1] at hl1
  simp only [List.length_singleton] at hl1
  obtain ⟨w1, hw1⟩ : ∃ W, (((w.alloc (.cells #[.int .i64 a.h.size, sv a.h.log, .slice As ns cs, .slice A n c] 27)).alloc (.cells #[.int .u8 1] 5)).alloc (.cells #[.slice (some ⟨w.heap.size + 1, 0, none⟩) 1 1, .bool false] 98)) = W := ⟨_, rfl⟩
  have HW1 := Lib.hid hw1
  have HC0 := Lib.hid (SwC.start w #[.int .i64 a.h.size, sv a.h.log, .slice As ns cs, .slice A n c] 27 1 hw1)
  have HS := Lib.hid hs
  have HR := Lib.hid hr
  have HSM := Lib.hid hsm
  have HLL := Lib.hid hL
  have HS1 := Lib.hid hs1
  have C := Lib.hid (WW.head (hh := a.h) HC0.out.ww (by simp only [List.length_singleton]; omega) (fun W hW => HS.out W (HC0.out.bel.trans hW)) hrt hlog hs1)
  unfold WWPost at C
  by_cases hne : n = ns
  · have hE : Hd.wrAns a = Hd.finO (Hd.wRows s1 a.rows) := by unfold Hd.wrAns; rw [if_neg (by rw [hrl, hlns]; simpa using hne), hs1]
    obtain ⟨rs, hrs⟩ : ∃ r, Hd.wRows s1 a.rows = r := ⟨_, rfl⟩
    rw [hrs] at hE
    obtain ⟨rr, hrr⟩ : ∃ r : Except Nat (List UInt8), Hd.finO rs = r := ⟨_, rfl⟩
    rw [hrr] at hE
    rw [hE]
    have HRS := Lib.hid hrs
    have HRR := Lib.hid hrr
    subst hne
    clear hE hs hr hsm hL hs1 hw1 hrs hrr hrt hlog
    go_enter Tryd.func10, Tryd.ntmps10
    go_upto_region 2 with fail
    rw [HW1.out]
    clear HW1
    have x0 := HC0.out.row.cellQ 0 _ rfl
    have x1 := HC0.out.row.cellQ 1 _ rfl
    have x2 := HC0.out.row.cellQ 2 _ rfl
    go_wp2_with fail
    (with_reducible refine C.out.mono ?_)
    rintro e w2 ⟨⟨v0, rfl⟩, hw, hb, hk⟩
    have HC1 := Lib.hid (HC0.out.turn (by decide) hw hb hk)
    clear hw hb hk C HC0 x0 x1 x2
    have x2 := HC1.out.row.cellQ 2 _ rfl
    have x3 := HC1.out.row.cellQ 3 _ rfl
    go_wp2
    clear x2 x3
    go_loopw [25] (fun vi wr => ∃ (k : Nat) (sk : Hd.WS), vi = .int .i64 (k : Int) ∧ k ≤ n ∧ sk.l.length ≤ 20000 + 200000 * k ∧ Hid ((WW wr w.heap.size (w.heap.size + 1 + 1) sk ∧ Below w.heap.size w wr) ∧ Hd.wRows sk (a.rows.drop k) = rs)) (fun vi _ => n - (intOf vi).toNat)
    case atStart => exact ⟨0, s1, rfl, by omega, by omega, Lib.hid ⟨⟨HC1.out.ww, HC1.out.bel⟩, by simpa using HRS.out⟩⟩
    case round =>
      obtain ⟨k, sk, rfl, hk, hskl, HI⟩ := hrel
      by_cases hlt : k < n
      · have HRW := Lib.hid (HR.out wr HI.out.1.2)
        obtain ⟨b, off, r, rfl, hbk, hrk, hcells⟩ := HRW.out.q.at rwc_len (by omega) hlt
        have x0 := hcells wr (Below.refl _ _) 0 _ rfl
        rw [Nat.mul_one, Nat.add_zero] at x0
        have HRI := Lib.hid (HRW.out.i r (List.mem_of_getElem? hrk))
        have HRK := Lib.hid (show a.rows[k]? = some r.ps by rw [← HLL.out, List.getElem?_map, hrk]; rfl)
        have hpl : r.ps.length = r.n := by unfold RwD.ps; rw [List.length_map, HRI.out.q.len]
        have hrcap := HRI.out.q.cap
        have hrmax := HRI.out.q.max
        rw [maxLen_eq] at hrmax
        have HDC := Lib.hid (drop_cons HRK.out)
        have HMEM := Lib.hid (List.mem_of_getElem? hrk)
        clear hcells hrk
        by_cases h16 : 16 < r.n
        · have h16' : (16 : Int) < (r.n : Int) := by omega
          have HN := Lib.hid (show rr = .error 1 by
            have h := HI.out.2
            rw [HDC.out, Hd.wRows, if_pos (by omega)] at h
            rw [← HRR.out, ← h]; rfl)
          go_wp2
          go_ret2
          exact ⟨HI.out.1.2, by rw [HN.out]; rfl⟩
        · have h16' : ¬ (16 : Int) < (r.n : Int) := by omega
          obtain ⟨t0, ht0⟩ : ∃ t, Hd.wNum sk (r.n : Int) = t := ⟨_, rfl⟩
          have hlt0 := Hd.wNum_len sk (r.n : Int)
          rw [ht0] at hlt0
          obtain ⟨tn, htn⟩ : ∃ t, r.ps.foldl Hd.wProof t0 = t := ⟨_, rfl⟩
          have HTN := Lib.hid htn
          have HNX := Lib.hid (show Hd.wRows tn (a.rows.drop (k + 1)) = rs by
            have h := HI.out.2
            rw [HDC.out, Hd.wRows, if_neg (by omega)] at h
            rw [← h, ← htn, ← ht0]
            unfold Hd.wRow
            rw [hpl])
          have CN := Lib.hid (WW.num (r.n : Int) (by omega) (by omega) HI.out.1.1 (by omega) ht0)
          unfold WWPost at CN
          have HPS := Lib.hid (HSM.out r.ps (List.mem_of_getElem? HRK.out))
          clear htn ht0
          go_wp2_with fail
          (with_reducible refine CN.out.mono ?_)
          rintro e w3 ⟨⟨v3, rfl⟩, hw, hb, hk9⟩
          have HX := Lib.hid (And.intro hw (HI.out.1.2.trans hb))
          clear hw hb hk9 CN x0
          go_wp2
          go_loopw [37] (fun vj wr => ∃ (j : Nat) (sj : Hd.WS), vj = .int .i64 (j : Int) ∧ j ≤ r.n ∧ sj.l.length ≤ sk.l.length + 9 + 7000 * j ∧ Hid ((WW wr w.heap.size (w.heap.size + 1 + 1) sj ∧ Below w.heap.size w wr) ∧ (r.ps.drop j).foldl Hd.wProof sj = tn)) (fun vj _ => r.n - (intOf vj).toNat)
          case atStart => exact ⟨0, t0, rfl, by omega, by omega, Lib.hid ⟨HX.out, by simpa using HTN.out⟩⟩
          case round =>
            obtain ⟨j, sj, rfl, hj, hsjl, HJ⟩ := hrel
            by_cases hltj : j < r.n
            · have HRW2 := Lib.hid ((HR.out wr HJ.out.1.2).i r)
              have HRJ := Lib.hid (HRW2.out HMEM.out)
              obtain ⟨b2, off2, d, hra, hbk2, hdj, hc2⟩ := HRJ.out.q.at pfc_len (by omega) hltj
              have y0 := hc2 wr (Below.refl _ _) 0 _ rfl
              rw [Nat.add_zero] at y0
              have y1 := hc2 wr (Below.refl _ _) 1 _ rfl
              have y2 := hc2 wr (Below.refl _ _) 2 _ rfl
              have y3 := hc2 wr (Below.refl _ _) 3 _ rfl
              have y4 := hc2 wr (Below.refl _ _) 4 _ rfl
              have y5 := hc2 wr (Below.refl _ _) 5 _ rfl
              have HDM := Lib.hid (List.mem_of_getElem? hdj)
              have HPJ := Lib.hid (show r.ps[j]? = some d.p by unfold RwD.ps; rw [List.getElem?_map, hdj]; rfl)
              obtain ⟨sn, hsn⟩ : ∃ t, Hd.wProof sj d.p = t := ⟨_, rfl⟩
              have hlsn := Hd.wProof_len sj d.p
              rw [hsn] at hlsn
              have HNJ := Lib.hid (show (r.ps.drop (j + 1)).foldl Hd.wProof sn = tn by
                have h := HJ.out.2
                rw [drop_cons HPJ.out, List.foldl_cons, hsn] at h
                exact h)
              have HPD := Lib.hid (HPS.out d.p (List.mem_of_getElem? HPJ.out))
              have HSN := Lib.hid hsn
              clear hc2 hdj hsn
              rw [hra]
              go_upto_region 14 with fail
              have hbz := (Below.refl wr.heap.size wr).alloc (Nat.le_refl _) (.cells #[.int .i64 d.p.at_, sv d.p.link.term, sv d.p.link.next, sv d.p.link.posts, .slice d.ap d.np d.cp, .slice d.ad d.nd d.cd] 79)
              have hrz := row_new wr #[.int .i64 d.p.at_, sv d.p.link.term, sv d.p.link.next, sv d.p.link.posts, .slice d.ap d.np d.cp, .slice d.ad d.nd d.cd] 79
              obtain ⟨wz, hwz⟩ : ∃ W, wr.alloc (.cells #[.int .i64 d.p.at_, sv d.p.link.term, sv d.p.link.next, sv d.p.link.posts, .slice d.ap d.np d.cp, .slice d.ad d.nd d.cd] 79) = W := ⟨_, rfl⟩
              rw [hwz] at hbz hrz
              rw [hwz]
              have HZW := Lib.hid (And.intro (HJ.out.1.1.keep hbz) (bt HJ.out.1.2 hbz))
              have z0 := hrz.cellQ 0 _ rfl
              have z1 := hrz.cellQ 1 _ rfl
              have z2 := hrz.cellQ 2 _ rfl
              have z3 := hrz.cellQ 3 _ rfl
              have z4 := hrz.cellQ 4 _ rfl
              have z5 := hrz.cellQ 5 _ rfl
              have CP := Lib.hid (WW.proof HZW.out.1 (by omega) HPD.out.a1 HPD.out.a2 (fun W hW => (((HR.out W (HZW.out.2.trans hW)).i r HMEM.out).i d HDM.out).s) HPD.out.pl (fun W hW => (((HR.out W (HZW.out.2.trans hW)).i r HMEM.out).i d HDM.out).b) HSN.out)
              unfold WWPost at CP
              clear hwz hbz hrz y0 y1 y2 y3 y4 y5
              go_wp2_with fail
              (with_reducible refine CP.out.mono ?_)
              rintro e w5 ⟨⟨v5, rfl⟩, hw, hb, hk9⟩
              have HY := Lib.hid (And.intro hw (HZW.out.2.trans hb))
              clear hw hb hk9 CP z0 z1 z2 z3 z4 z5 HZW
              go_wp2
              go_roundw
              case rel => exact ⟨j + 1, sn, by go_num, by omega, by omega, Lib.hid ⟨HY.out, HNJ.out⟩⟩
              case measure => simp [intOf]; omega
            · obtain rfl : j = r.n := by omega
              have HFJ := Lib.hid (show sj = tn by have h := HJ.out.2; rw [← hpl, List.drop_length] at h; exact h)
              go_wp2
              go_roundw
              case rel => exact ⟨k + 1, sj, by go_num, by omega, by omega, Lib.hid ⟨HJ.out.1, by rw [HFJ.out]; exact HNX.out⟩⟩
              case measure => simp [intOf]; omega
      · obtain rfl : k = n := by omega
        have HFR := Lib.hid (show Hd.wEnd sk = rr by
          have h := HI.out.2
          rw [← hrl, List.drop_length, Hd.wRows] at h
          rw [← HRR.out, ← h]; rfl)
        have CF := Lib.hid (ww_fin HI.out.1.1 HI.out.1.2 HFR.out)
        go_wp2_with fail
        (with_reducible refine CF.out.mono ?_)
        rintro e wf ⟨rfl, hpost, A9, n9, c9, x9, rfl⟩
        have HPP := Lib.hid hpost
        clear hpost
        go_wp2
        go_ret2
        exact HPP.out
  · have hE : Hd.wrAns a = .error 1 := by unfold Hd.wrAns; rw [if_pos (by rw [hrl, hlns]; exact hne)]
    rw [hE]
    have hne' : ¬ (n : Int) = (ns : Int) := by omega
    have hneb : ((n : Int) == (ns : Int)) = false := beq_eq_false_iff_ne.2 hne'
    clear hE hs hr hsm hL hs1 hw1 hrt hlog
    go_enter Tryd.func10, Tryd.ntmps10
    go_upto_region 2 with fail
    rw [HW1.out]
    clear HW1
    have x0 := HC0.out.row.cellQ 0 _ rfl
    have x1 := HC0.out.row.cellQ 1 _ rfl
    have x2 := HC0.out.row.cellQ 2 _ rfl
    go_wp2_with fail
    (with_reducible refine C.out.mono ?_)
    rintro e w2 ⟨⟨v0, rfl⟩, hw, hb, hk⟩
    have HC1 := Lib.hid (HC0.out.turn (by decide) hw hb hk)
    clear hw hb hk C HC0 x0 x1 x2
    have x2 := HC1.out.row.cellQ 2 _ rfl
    have x3 := HC1.out.row.cellQ 3 _ rfl
    go_wp2
    go_ret2
    exact ⟨HC1.out.bel, rfl⟩
end Go.Proofs.YtfgpaepdlmnhaaaDoor

namespace Go.Proofs.YtfgpaepdlmnhaaaDoor
set_option maxRecDepth 100000
set_option linter.unusedVariables false
open Go.RowKit
namespace Hd
def stPK (l : By) (s0 : RS) : Nat → RS × List Pf
  | 0 => (s0, [])
  | k + 1 => ((stProof l (stPK l s0 k).1).1, (stPK l s0 k).2 ++ [(stProof l (stPK l s0 k).1).2])
theorem stPK_len (l : By) (s0 : RS) : ∀ k, (stPK l s0 k).2.length = k
  | 0 => rfl
  | k + 1 => by simp only [stPK, List.length_append, stPK_len l s0 k, List.length_singleton]
def stRow (l : By) (s : RS) : RS × List Pf := stPK l (stCount l 16 s).1 (stCount l 16 s).2
def stRK (l : By) (s0 : RS) : Nat → RS × List (List Pf)
  | 0 => (s0, [])
  | k + 1 => ((stRow l (stRK l s0 k).1).1, (stRK l s0 k).2 ++ [(stRow l (stRK l s0 k).1).2])
theorem stRK_len (l : By) (s0 : RS) : ∀ k, (stRK l s0 k).2.length = k
  | 0 => rfl
  | k + 1 => by simp only [stRK, List.length_append, stRK_len l s0 k, List.length_singleton]
def rdAns (l : By) : Except Nat An :=
  if begX l 1 ≠ 0 then .error (begX l 1) else
  if doneX l (stRK l (stHead l ⟨1, 0⟩).1 (stHead l ⟨1, 0⟩).2.segs.length).1 ≠ 0 then .error (doneX l (stRK l (stHead l ⟨1, 0⟩).1 (stHead l ⟨1, 0⟩).2.segs.length).1) else .ok ⟨(stHead l ⟨1, 0⟩).2, (stRK l (stHead l ⟨1, 0⟩).1 (stHead l ⟨1, 0⟩).2.segs.length).2⟩
theorem stHead_few (l : By) (s : RS) : (stHead l s).2.segs.length ≤ 64 := by
  unfold stHead
  split
  · exact Nat.zero_le _
  · cases h : rdHd (stText l 10000 s).2 with
    | error x => exact Nat.zero_le _
    | ok hh =>
      show hh.segs.length ≤ 64
      unfold rdHd at h
      split at h
      · cases h
      · split at h
        · cases h
        · split at h
          · rename_i ok
            injection h with h
            subst h
            exact (H.ok_iff ok).few
          · cases h
end Hd
section
variable {α : Type} {cs : α → List Value} {k bytes : Nat} {ops : Array Oper} {rest : List Oper} {o : Oper} {a : Act} {Q : Exit → Act → World → Prop} {w : World}
/-- append(v, x): one struct; what lies elsewhere is told of. -/
theorem wl_appQ1k {T e : TypeId} (hk : ∀ a, (cs a).length = k) (hT : ElemT Tryd.prog T e k bytes) (hbt : bytes ≤ 1000) (hone : ∀ a, ∀ u ∈ cs a, u.oneCell' = true) (hgd : o.guard = none) (s x : Operand) (ho : o.op = .call { callee := .builtin .append, args := #[s, x], argTypes := #[T, T] })
    {w0 : World} {B : Nat} {A : Option Addr} {n c : Nat} {l : List α} (hs : a.eval s = .slice A n c) (h1 : OwnQ cs k e w0 B A n c l) (hx : a.eval x = .slice (some ⟨w0.heap.size, 0, none⟩) 1 1) (b : α) {lit : Array Value} (hlit : lit.toList = cs b) (hsz : n ≤ 1000000000) (hB : B ≤ w0.heap.size)
    (h : ∀ A' c' w', OwnQ cs k e w' B A' (n + 1) c' (l ++ [b]) → (w0.alloc (.cells lit e)).grownBy w' (Value.slice A n c).ownBlock → Below B (w0.alloc (.cells lit e)) w' → wpList Tryd.prog ops Q rest (a.put o.dst (.slice A' (n + 1) c')) w') : wpList Tryd.prog ops Q (o :: rest) a (w0.alloc (.cells lit e)) := by
  have hb0 : Below w0.heap.size w0 (w0.alloc (.cells lit e)) := (Below.refl _ w0).alloc (Nat.le_refl _) _
  have hr : Rd (w0.alloc (.cells lit e)) (w0.heap.size + 1) (some ⟨w0.heap.size, 0, none⟩) (cs b) := by
    have := rd_new w0 (cs b) e (0, 0)
    rw [← hlit] at this ⊢
    simpa using this
  refine wl_app hgd s x T ho B e k bytes hT _ n _ hs (h1.keep hb0).own (w0.heap.size + 1) (some ⟨w0.heap.size, 0, none⟩) 1 1 (cs b) hx hr (by rw [hk, Nat.one_mul]) (hone b) (by rw [maxLen_eq]; omega) (by
    have : (n + 1) * bytes ≤ (n + 1) * 1000 := Nat.mul_le_mul_left _ hbt
    omega) (Nat.le_trans hB hb0.size) fun A' c' w' g1 g2 _ g4 g5 g6 => ?_
  exact h A' c' w' ⟨by rw [List.flatMap_append]; simpa using g1, by rw [List.length_append, h1.len]; rfl, g5, g6⟩ g2 g4
end
theorem pfT : ElemT Tryd.prog 95 79 6 104 := ElemT.mk' (z := .agg #[.int .i64 0, .string ByteArray.empty, .string ByteArray.empty, .string ByteArray.empty, .slice none 0 0, .slice none 0 0]) Tryd.underlying95 (by kernel_rfl) rfl (by omega)
theorem rwT : ElemT Tryd.prog 25 95 1 24 := ElemT.mk' (z := .slice none 0 0) Tryd.underlying25 (by kernel_rfl) rfl (by omega)
theorem pfc_one (d : PfD) : ∀ u ∈ pfc d, u.oneCell' = true := fun u hu => by
  simp only [pfc, List.mem_cons, List.not_mem_nil, or_false] at hu
  rcases hu with rfl | rfl | rfl | rfl | rfl | rfl <;> rfl
theorem rwc_one (d : RwD) : ∀ u ∈ rwc d, u.oneCell' = true := fun u hu => by
  simp only [rwc, List.mem_cons, List.not_mem_nil, or_false] at hu
  subst hu; rfl
theorem PfAt.keepTy {S : List TypeId} {w w' : World} {b : Nat} {Ap : Option Addr} {np cp : Nat} {Ad : Option Addr} {nd cd : Nat} {p : Hd.Pf} (h : PfAt w b Ap np cp Ad nd cd p) (h1 : 9 ∉ S) (h2 : 5 ∉ S) (k : KeepTy S w w') : PfAt w' b Ap np cp Ad nd cd p := ⟨h.path.keepTy h1 k, h.docs.keepTy h2 k⟩
theorem PfAt.base {w : World} {b b' : Nat} {Ap : Option Addr} {np cp : Nat} {Ad : Option Addr} {nd cd : Nat} {p : Hd.Pf} (h : PfAt w b Ap np cp Ad nd cd p) (hb : b' ≤ b) : PfAt w b' Ap np cp Ad nd cd p := ⟨h.path.base hb, h.docs.base hb⟩
/-- A row of proofs that is the call's own. -/
structure OwnRw (W : World) (b : Nat) (r : RwD) : Prop where
  q : OwnQ pfc 6 79 W b r.a r.n r.c r.l
  i : ∀ d ∈ r.l, PfAt W b d.ap d.np d.cp d.ad d.nd d.cd d.p
theorem OwnRw.keepTy {S : List TypeId} {W W' : World} {b : Nat} {r : RwD} (h : OwnRw W b r) (h0 : 79 ∉ S) (h1 : 9 ∉ S) (h2 : 5 ∉ S) (k : KeepTy S W W') : OwnRw W' b r := ⟨h.q.keepTy h0 k, fun d hd => (h.i d hd).keepTy h1 h2 k⟩
theorem OwnRw.base {W : World} {b b' : Nat} {r : RwD} (h : OwnRw W b r) (hb : b' ≤ b) : OwnRw W b' r := ⟨h.q.base hb, fun d hd => (h.i d hd).base hb⟩
theorem OwnRw.inr {W : World} {b : Nat} {r : RwD} (h : OwnRw W b r) : InRow W r := ⟨h.q.sq, fun d hd => ⟨(h.i d hd).path.ss, (h.i d hd).docs.bs⟩⟩
/-- What stands in the reading of an answer. -/
structure RaC (w W : World) (B g : Nat) (l : List UInt8) (s : Hd.RS) (gr ga : Nat) (cs : Array Value) (Ah : Option Addr) (nh ch : Nat) (hs : List Hd.Sg) (Ar : Option Addr) (nr cr : Nat) (LL : List RwD) : Prop where
  rd : RRd W B g l s
  rr : Row W gr #[.int .i64 0, .string { data := #[] }, .slice none 0 0, .slice none 0 0] 27
  ra : Row W ga cs 27
  bel : Below w.heap.size w W
  b0 : w.heap.size ≤ B
  gr0 : w.heap.size ≤ gr
  ga0 : w.heap.size ≤ ga
  ne : gr ≠ ga
  hq : OwnQ sgc 4 130 W B Ah nh ch hs
  rows : ∀ r ∈ LL, OwnRw W B r
  own : OwnQ rwc 1 95 W B Ar nr cr LL
section
variable {w W W' : World} {B g gr ga : Nat} {l : List UInt8} {s s' : Hd.RS} {cs : Array Value} {Ah : Option Addr} {nh ch : Nat} {hs : List Hd.Sg} {Ar : Option Addr} {nr cr : Nat} {LL : List RwD}
theorem RaC.turn (h : RaC w W B g l s gr ga cs Ah nh ch hs Ar nr cr LL) (hr : RRd W' B g l s') (hb : Below B W W') (k : KeepTy SRR W W') : RaC w W' B g l s' gr ga cs Ah nh ch hs Ar nr cr LL :=
  ⟨hr, h.rr.keepTy (by decide) k, h.ra.keepTy (by decide) k, h.bel.trans (hb.mono h.b0), h.b0, h.gr0, h.ga0, h.ne, h.hq.keepTy (by decide) k, fun r hm => (h.rows r hm).keepTy (by decide) (by decide) (by decide) k, h.own.keepTy (by decide) k⟩
theorem RaC.keep (h : RaC w W B g l s gr ga cs Ah nh ch hs Ar nr cr LL) (hb : Below W.heap.size W W') : RaC w W' B g l s gr ga cs Ah nh ch hs Ar nr cr LL := h.turn (h.rd.keep hb) (hb.mono h.rd.le) (KeepTy.of hb)
/-- The row of rows has grown. -/
theorem RaC.grown {A2 : Option Addr} {c2 : Nat} {r : RwD} (h : RaC w W B g l s gr ga cs Ah nh ch hs Ar nr cr LL) (hr : OwnRw W B r) (ho : OwnQ rwc 1 95 W' B A2 (nr + 1) c2 (LL ++ [r])) (hg : W.grownBy W' (Value.slice Ar nr cr).ownBlock) (hb : Below B W W') : RaC w W' B g l s gr ga cs Ah nh ch hs A2 (nr + 1) c2 (LL ++ [r]) := by
  have k := KeepTy.grown (S := [95]) h.own.own (by decide) hg hb.size
  refine ⟨h.rd.grown h.own.own (by decide) hg hb.size, h.rr.keepTy (by decide) k, h.ra.keepTy (by decide) k, h.bel.trans (hb.mono h.b0), h.b0, h.gr0, h.ga0, h.ne, h.hq.keepTy (by decide) k, fun r' hm => ?_, ho⟩
  rcases List.mem_append.1 hm with hm | hm
  · exact (h.rows r' hm).keepTy (by decide) (by decide) (by decide) k
  · rw [List.mem_singleton.1 hm]; exact hr.keepTy (by decide) (by decide) (by decide) k
theorem RaC.setA (h : RaC w W B g l s gr ga cs Ah nh ch hs Ar nr cr LL) (hu : cs.toList.all notU8 = true) (j : Nat) (v : Value) : RaC w (W.setCell ⟨ga, j, none⟩ v) B g l s gr ga (cs.setIfInBounds j v) Ah nh ch hs Ar nr cr LL := by
  have k := KeepTy.set (S := [27]) h.ra (by decide) j v
  exact ⟨RRd.setF h.rd h.ra (by decide) hu (by decide) [v] j, h.rr.far ga j v h.ne, h.ra.set j v, h.bel.setCell (p := ⟨ga, j, none⟩) h.ga0 v, h.b0, h.gr0, h.ga0, h.ne, h.hq.keepTy (by decide) k, fun r hm => (h.rows r hm).keepTy (by decide) (by decide) (by decide) k, h.own.keepTy (by decide) k⟩
end
/-- What stands in the reading of a row. -/
structure RbC (wz W : World) (B g : Nat) (l : List UInt8) (s : Hd.RS) (A : Option Addr) (n c : Nat) (L : List PfD) : Prop where
  rd : RRd W B g l s
  bel : Below B wz W
  kp : KeepTy SRR wz W
  q : OwnQ pfc 6 79 W wz.heap.size A n c L
  i : ∀ d ∈ L, PfAt W wz.heap.size d.ap d.np d.cp d.ad d.nd d.cd d.p
section
variable {wz W W' : World} {B g : Nat} {l : List UInt8} {s s' : Hd.RS} {A : Option Addr} {n c : Nat} {L : List PfD}
theorem RbC.turn (h : RbC wz W B g l s A n c L) (hr : RRd W' B g l s') (hb : Below B W W') (k : KeepTy SRR W W') : RbC wz W' B g l s' A n c L := ⟨hr, h.bel.trans hb, h.kp.trans k, h.q.keepTy (by decide) k, fun d hd => (h.i d hd).keepTy (by decide) (by decide) k⟩
theorem RbC.grown {A2 : Option Addr} {c2 : Nat} {d : PfD} (h : RbC wz W B g l s A n c L) (hB : B ≤ wz.heap.size) (hd : PfAt W wz.heap.size d.ap d.np d.cp d.ad d.nd d.cd d.p) (ho : OwnQ pfc 6 79 W' wz.heap.size A2 (n + 1) c2 (L ++ [d])) (hg : W.grownBy W' (Value.slice A n c).ownBlock) (hb : Below wz.heap.size W W') : RbC wz W' B g l s A2 (n + 1) c2 (L ++ [d]) := by
  have k := KeepTy.grown (S := [79]) h.q.own (by decide) hg hb.size
  refine ⟨h.rd.grown (own_base h.q.own hB) (by decide) hg hb.size, h.bel.trans (hb.mono hB), h.kp.grownFar h.q.own (Nat.le_refl _) hg hb.size, ho, fun x hx => ?_⟩
  rcases List.mem_append.1 hx with hx | hx
  · exact (h.i x hx).keepTy (by decide) (by decide) k
  · rw [List.mem_singleton.1 hx]; exact hd.keepTy (by decide) (by decide) k
end
def RdPost_ans (r : Except Nat Hd.An) (w : World) (e : Ending) (w' : World) : Prop := Below w.heap.size w w' ∧ match r with
  | .ok a => ∃ Ah nh ch Ar nr cr LL, e = .returned (.tuple #[.agg #[.int .i64 a.h.size, sv a.h.log, .slice Ah nh ch, .slice Ar nr cr], .int .i64 0]) ∧ OwnQ sgc 4 130 w' w.heap.size Ah nh ch a.h.segs ∧ OwnQ rwc 1 95 w' w.heap.size Ar nr cr LL ∧ (∀ r ∈ LL, OwnRw w' w.heap.size r) ∧ LL.map RwD.ps = a.rows
  | .error x => e = .returned (.tuple #[.agg #[.int .i64 0, .string { data := #[] }, .slice none 0 0, .slice none 0 0], .int .i64 (x : Int)]) ∧ x ≠ 0
set_option maxRecDepth 100000 in
set_option maxHeartbeats 32000000 in
theorem rd_ans (A : Option Addr) (n c : Nat) (l : List UInt8) (w : World) (h : Bs w A n c l) (hn : l.length ≤ 1000000000) : Calls Tryd.prog 14 #[.slice A n c] w (RdPost_ans (Hd.rdAns l) w) := by
  have hb0 := (Below.refl w.heap.size w).alloc (Nat.le_refl _) (.cells #[.int .i64 0, .string { data := #[] }, .slice none 0 0, .slice none 0 0] 27)
  have hr0 := row_new w #[.int .i64 0, .string { data := #[] }, .slice none 0 0, .slice none 0 0] 27
  obtain ⟨w1, hw1⟩ : ∃ W, w.alloc (.cells #[.int .i64 0, .string { data := #[] }, .slice none 0 0, .slice none 0 0] 27) = W := ⟨_, rfl⟩
  have HW1 := Lib.hid hw1
  rw [hw1] at hb0 hr0
  have HB0 := Lib.hid hb0
  have HR0 := Lib.hid hr0
  have hlt0 := hr0.lt
  have CB := begin_any A n c l 1 w1 (h.keep hb0)
  have CB := Lib.hid (show Calls Tryd.prog 52 #[.slice A n c, .int .u8 1] w1 (BegPost l 1 w1) from CB)
  obtain ⟨bx, hbx⟩ : ∃ x, begX l 1 = x := ⟨_, rfl⟩
  obtain ⟨⟨s1, v1⟩, hs1⟩ : ∃ r, Hd.stHead l ⟨1, 0⟩ = r := ⟨_, rfl⟩
  have hfew := Hd.stHead_few l ⟨1, 0⟩
  rw [hs1] at hfew
  have hfew : v1.segs.length ≤ 64 := hfew
  obtain ⟨kq, hkq⟩ : ∃ k, Hd.stRK l s1 = k := ⟨_, rfl⟩
  obtain ⟨dx, hdx⟩ : ∃ x, Hd.doneX l (kq v1.segs.length).1 = x := ⟨_, rfl⟩
  have HE := Lib.hid (show Hd.rdAns l = if bx ≠ 0 then .error bx else if dx ≠ 0 then .error dx else .ok ⟨v1, (kq v1.segs.length).2⟩ by unfold Hd.rdAns; simp only [hbx, hs1, hkq, hdx])
  have HS1 := Lib.hid hs1
  have HKQ := Lib.hid hkq
  have HDX := Lib.hid hdx
  have HEW := Lib.hid (show kq 0 = (s1, []) by rw [← hkq]; rfl)
  unfold BegPost at CB
  rw [hbx] at CB
  rw [HE.out]
  clear h hbx hdx hw1 hb0 hr0 hs1 hkq
  by_cases hx0 : bx = 0
  · subst hx0
    rw [if_neg (by simp)]
    obtain ⟨R, hR⟩ : ∃ R, (if dx ≠ 0 then .error dx else .ok ⟨v1, (kq v1.segs.length).2⟩ : Except Nat Hd.An) = R := ⟨_, rfl⟩
    have HR := Lib.hid hR
    rw [hR]
    clear hR HE
    go_enter Tryd.func14, Tryd.ntmps14
    go_upto_region 1 with fail
    rw [HW1.out]
    go_wp2_with fail
    (with_reducible refine CB.out.mono ?_)
    rintro e w2 ⟨hb2, he2⟩
    rw [if_pos trivial] at he2
    obtain ⟨g, rfl, hr2⟩ := he2
    have HB2 := Lib.hid hb2
    have HR2 := Lib.hid hr2
    clear hb2 hr2 CB
    have C := Lib.hid (HR2.out.head hn HS1.out)
    unfold RRPostV at C
    go_wp2_with fail
    (with_reducible refine C.out.mono ?_)
    rintro e w3 ⟨_, rfl, ⟨Ah, nh, ch, rfl, hq⟩, hr, hb, hk⟩
    have HR3 := Lib.hid hr
    have HB3 := Lib.hid (bt HB0.out (HB2.out.trans hb))
    have HRW3 := Lib.hid ((HR0.out.belowS HB2.out (Nat.le_refl _)).keepTy (by decide) hk)
    have HQ3 := Lib.hid (hq.base HB2.out.size)
    clear hr hb hk hq C HB2 HR2
    unfold hdv
    go_upto_region 5 with fail
    have hb4 := (Below.refl w3.heap.size w3).alloc (Nat.le_refl _) (.cells #[.int .i64 v1.size, sv v1.log, .slice Ah nh ch, .slice none 0 0] 27)
    have hr4 := row_new w3 #[.int .i64 v1.size, sv v1.log, .slice Ah nh ch, .slice none 0 0] 27
    obtain ⟨w4, hw4⟩ : ∃ W, w3.alloc (.cells #[.int .i64 v1.size, sv v1.log, .slice Ah nh ch, .slice none 0 0] 27) = W := ⟨_, rfl⟩
    rw [hw4] at hb4 hr4 ⊢
    have hga := HRW3.out.lt
    have HC0 := Lib.hid (show RaC w w4 w1.heap.size g l s1 w.heap.size w3.heap.size #[.int .i64 v1.size, sv v1.log, .slice Ah nh ch, .slice none 0 0] Ah nh ch v1.segs none 0 0 [] from ⟨HR3.out.keep hb4, HRW3.out.belowS hb4 (Nat.le_refl _), hr4, bt HB3.out hb4, Nat.le_of_lt hlt0, Nat.le_refl _, by omega, by omega, HQ3.out.keep hb4, by simp, OwnQ.nil _ _⟩)
    have HNH := Lib.hid (show nh = v1.segs.length from HQ3.out.len.symm)
    have hnb : nh ≤ 64 := by rw [HNH.out]; exact hfew
    clear hw4 hb4 hr4 HR3 HB3 HRW3 HQ3
    obtain ⟨ga, hga2⟩ : ∃ g, w3.heap.size = g := ⟨_, rfl⟩
    rw [hga2] at HC0 ⊢
    clear hga2 hga
    have x2 := HC0.out.ra.cellQ 2 _ rfl
    go_wp2
    clear x2
    go_loopw [25] (fun vi wr => ∃ (k : Nat) (Ar : Option Addr) (nr cr : Nat) (LL : List RwD), vi = .int .i64 (k : Int) ∧ k ≤ nh ∧ Hid (RaC w wr w1.heap.size g l (kq k).1 w.heap.size ga #[.int .i64 v1.size, sv v1.log, .slice Ah nh ch, .slice Ar nr cr] Ah nh ch v1.segs Ar nr cr LL ∧ LL.map RwD.ps = (kq k).2)) (fun vi _ => nh - (intOf vi).toNat)
    case atStart => exact ⟨0, none, 0, 0, [], rfl, by omega, Lib.hid ⟨by rw [HEW.out]; exact HC0.out, by rw [HEW.out]; rfl⟩⟩
    case round =>
      obtain ⟨k, Ar, nr, cr, LL, rfl, hk, HI⟩ := hrel
      by_cases hlt : k < nh
      · obtain ⟨⟨s2, row⟩, hsr⟩ : ∃ r, Hd.stRow l (kq k).1 = r := ⟨_, rfl⟩
        have HK1 := Lib.hid (show kq (k + 1) = (s2, (kq k).2 ++ [row]) by rw [← HKQ.out] at hsr ⊢; simp only [Hd.stRK, hsr])
        obtain ⟨⟨s3, m⟩, hsc⟩ : ∃ r, Hd.stCount l 16 (kq k).1 = r := ⟨_, rfl⟩
        have hm16 := Hd.stCount_le l 16 (kq k).1
        rw [hsc] at hm16
        have hm16 : m ≤ 16 := hm16
        obtain ⟨pk, hpk⟩ : ∃ f, Hd.stPK l s3 = f := ⟨_, rfl⟩
        unfold Hd.stRow at hsr
        rw [hsc] at hsr
        simp only at hsr
        rw [hpk] at hsr
        have HSR := Lib.hid hsr
        have HPK := Lib.hid hpk
        have HPW := Lib.hid (show pk 0 = (s3, []) by rw [← hpk]; rfl)
        have C := HI.out.1.rd.count 16 (by omega) hn hsc
        rw [show ((16 : Nat) : Int) = 16 from rfl] at C
        have C := Lib.hid C
        unfold RRPost at C
        clear hsr hsc hpk
        go_wp2_with fail
        (with_reducible refine C.out.mono ?_)
        rintro e wz ⟨rfl, hr, hb, hk9⟩
        have HZ := Lib.hid (HI.out.1.turn hr hb hk9)
        clear hr hb hk9 C
        have hBz := HZ.out.rd.le
        go_wp2
        go_loopw [7, 29] (fun vl vj wy => ∃ (j : Nat) (A' : Option Addr) (n' c' : Nat) (L : List PfD), vl = .slice A' n' c' ∧ vj = .int .i64 (j : Int) ∧ j ≤ m ∧ Hid (RbC wz wy w1.heap.size g l (pk j).1 A' n' c' L ∧ L.map PfD.p = (pk j).2)) (fun _ vj _ => m - (intOf vj).toNat)
        case atStart => exact ⟨0, none, 0, 0, [], rfl, rfl, by omega, Lib.hid ⟨by rw [HPW.out]; exact ⟨HZ.out.rd, Below.refl _ _, KeepTy.refl _, OwnQ.nil _ _, by simp⟩, by rw [HPW.out]; rfl⟩⟩
        case round =>
          obtain ⟨j, A', n', c', L, rfl, rfl, hj, HJ⟩ := hrel
          have hnj : n' = j := by have h := congrArg List.length HJ.out.2; rw [List.length_map, HJ.out.1.q.len, ← HPK.out, Hd.stPK_len] at h; exact h
          subst hnj
          by_cases hltj : n' < m
          · obtain ⟨⟨s4, pf⟩, hsp⟩ : ∃ r, Hd.stProof l (pk n').1 = r := ⟨_, rfl⟩
            have HP1 := Lib.hid (show pk (n' + 1) = (s4, (pk n').2 ++ [pf]) by rw [← HPK.out] at hsp ⊢; simp only [Hd.stPK, hsp])
            have CP := Lib.hid (HJ.out.1.rd.proof hn hsp)
            unfold RRPostV at CP
            clear hsp
            go_wp2_with fail
            (with_reducible refine CP.out.mono ?_)
            rintro e w5 ⟨_, rfl, ⟨Ap, np, cp, Ad, nd, cd, rfl, hpf⟩, hr, hb, hk9⟩
            have HPF := Lib.hid (hpf.base HJ.out.1.kp.size)
            have HJ5 := Lib.hid (HJ.out.1.turn hr hb hk9)
            have hsz5 : wz.heap.size ≤ w5.heap.size := HJ5.out.kp.size
            clear hpf hr hb hk9 CP
            unfold pfv
            go_wp2_with (at_builtin; refine wl_appQ1k pfc_len pfT (by omega) pfc_one rfl (.tmp 31) (.tmp 34) rfl rfl HJ5.out.q rfl ⟨pf, Ap, np, cp, Ad, nd, cd⟩ rfl (by omega) hsz5 ?_; intro A6 c6 w6 ho6 hg6 hb6; have HJ6 := Lib.hid (show RbC wz w6 w1.heap.size g l s4 A6 (n' + 1) c6 (L ++ [⟨pf, Ap, np, cp, Ad, nd, cd⟩]) from by
                have hba := (Below.refl w5.heap.size w5).alloc (Nat.le_refl _) (.cells #[.int .i64 pf.at_, sv pf.link.term, sv pf.link.next, sv pf.link.posts, .slice Ap np cp, .slice Ad nd cd] 79)
                have h5 := HJ5.out.turn (HJ5.out.rd.keep hba) (hba.mono HJ5.out.rd.le) (KeepTy.of hba)
                exact h5.grown hBz (HPF.out.keepTy (S := []) (by simp) (by simp) (KeepTy.of hba)) ho6 hg6 hb6); clear ho6 hg6 hb6)
            go_roundw
            case rel => exact ⟨n' + 1, A6, n' + 1, c6, _, rfl, by go_num, by omega, Lib.hid ⟨by rw [HP1.out]; exact HJ6.out, by rw [HP1.out, List.map_append, HJ.out.2]; rfl⟩⟩
            case measure => simp [intOf]; omega
          · obtain rfl : n' = m := by omega
            have HA := Lib.hid (show RaC w wr w1.heap.size g l s2 w.heap.size ga #[.int .i64 v1.size, sv v1.log, .slice Ah nh ch, .slice Ar nr cr] Ah nh ch v1.segs Ar nr cr LL from HZ.out.turn (by have h := HJ.out.1.rd; rw [HSR.out] at h; exact h) HJ.out.1.bel HJ.out.1.kp)
            have HRW := Lib.hid (show OwnRw wr w1.heap.size ⟨A', n', c', L⟩ from ⟨HJ.out.1.q.base hBz, fun d hd => (HJ.out.1.i d hd).base hBz⟩)
            have HRP := Lib.hid (show (⟨A', n', c', L⟩ : RwD).ps = row by unfold RwD.ps; rw [HJ.out.2, HSR.out])
            have hnr : nr ≤ 1000 := by have h := congrArg List.length HI.out.2; rw [List.length_map, HI.out.1.own.len, ← HKQ.out, Hd.stRK_len] at h; omega
            have x3 := HA.out.ra.cellQ 3 _ rfl
            have hle := HA.out.rd.le
            go_upto_region 13 with (at_builtin; refine wl_appQ1k rwc_len rwT (by omega) rwc_one rfl (.tmp 38) (.tmp 40) rfl rfl HA.out.own rfl ⟨A', n', c', L⟩ rfl (by omega) hle ?_; intro A7 c7 w7 ho7 hg7 hb7; have HA7 := Lib.hid (show RaC w w7 w1.heap.size g l s2 w.heap.size ga #[.int .i64 v1.size, sv v1.log, .slice Ah nh ch, .slice Ar nr cr] Ah nh ch v1.segs A7 (nr + 1) c7 (LL ++ [⟨A', n', c', L⟩]) from by
                have hba := (Below.refl wr.heap.size wr).alloc (Nat.le_refl _) (.cells #[.slice A' n' c'] 95)
                exact (HA.out.keep hba).grown (HRW.out.keepTy (S := []) (by simp) (by simp) (by simp) (KeepTy.of hba)) ho7 hg7 hb7); clear ho7 hg7 hb7 x3; have x3 := HA7.out.ra.cellQ 3 _ rfl; have y3 := HA7.out.ra.frozen 3)
            generalize hwd : World.setCell w7 _ _ = w8
            have HA8 := Lib.hid (show RaC w w8 w1.heap.size g l s2 w.heap.size ga #[.int .i64 v1.size, sv v1.log, .slice Ah nh ch, .slice A7 (nr + 1) c7] Ah nh ch v1.segs A7 (nr + 1) c7 (LL ++ [⟨A', n', c', L⟩]) by rw [← hwd]; exact HA7.out.setA rfl 3 _)
            clear hwd x3 y3 HA HA7
            go_wp2
            go_roundw
            case rel => exact ⟨k + 1, A7, nr + 1, c7, _, by go_num, by omega, Lib.hid ⟨by rw [HK1.out]; exact HA8.out, by rw [HK1.out, List.map_append, HI.out.2, List.map_singleton, HRP.out]⟩⟩
            case measure => simp [intOf]; omega
      · obtain rfl : k = nh := by omega
        have HA := Lib.hid HI.out.1
        have HLL := Lib.hid HI.out.2
        have hnh := HNH.out
        subst hnh
        obtain ⟨sd, hsd⟩ : ∃ s, (kq v1.segs.length).1 = s := ⟨_, rfl⟩
        rw [hsd] at HA HDX
        clear hsd HI
        obtain ⟨Ag, cg, rg, CD⟩ := HA.out.rd.done HDX.out
        have CD := Lib.hid CD
        have x0 := rg.cellQ 0 _ rfl
        have x1 := rg.cellQ 1 _ rfl
        have x2 := rg.cellQ 2 _ rfl
        clear rg
        go_wp2_with fail
        (with_reducible refine (CD.out _).mono ?_)
        rintro e w30 ⟨rfl, hb30⟩
        have HF := Lib.hid (HA.out.keep hb30)
        clear hb30 x0 x1 x2 CD HA
        have z0 := HF.out.rr.cellQ 0 _ rfl
        have u0 := HF.out.rr.frozen 0
        have z1 := HF.out.rr.cellQ 1 _ rfl
        have u1 := HF.out.rr.frozen 1
        have z2 := HF.out.rr.cellQ 2 _ rfl
        have u2 := HF.out.rr.frozen 2
        have z3 := HF.out.rr.cellQ 3 _ rfl
        have u3 := HF.out.rr.frozen 3
        by_cases hd0 : dx = 0
        · subst hd0
          have HR1 := Lib.hid (show R = .ok ⟨v1, (kq v1.segs.length).2⟩ by rw [← HR.out, if_neg (by simp)])
          have q0 := HF.out.ra.cellQ 0 _ rfl
          have q1 := HF.out.ra.cellQ 1 _ rfl
          have q2 := HF.out.ra.cellQ 2 _ rfl
          have q3 := HF.out.ra.cellQ 3 _ rfl
          go_wp2
          generalize hwf : World.setCell (World.setCell (World.setCell (World.setCell w30 _ _) _ _) _ _) _ _ = wf
          have hsf : setFrom w.heap.size w30 0 [.int .i64 v1.size, sv v1.log, .slice Ah v1.segs.length ch, .slice Ar nr cr] = wf := by rw [← hwf]; rfl
          have hrow := HF.out.rr.all [.int .i64 v1.size, sv v1.log, .slice Ah v1.segs.length ch, .slice Ar nr cr] rfl
          rw [hsf] at hrow
          have r0 := hrow.cellQ 0 _ rfl
          have r1 := hrow.cellQ 1 _ rfl
          have r2 := hrow.cellQ 2 _ rfl
          have r3 := hrow.cellQ 3 _ rfl
          refine bodyPost_ret (v := .tuple #[.agg #[.int .i64 v1.size, sv v1.log, .slice Ah v1.segs.length ch, .slice Ar nr cr], .int .i64 0]) (by simp [results, Tryd.results14, go_sem, r0, r1, r2, r3]) rfl ?_
          have hbel : Below w.heap.size w wf := by rw [← hsf]; exact below_setFrom (Nat.le_refl _) _ 0 HF.out.bel
          have k9 := KeepTy.setF (S := [27]) (by decide) [.int .i64 v1.size, sv v1.log, .slice Ah v1.segs.length ch, .slice Ar nr cr] 0 HF.out.rr
          rw [hsf] at k9
          rw [HR1.out]
          exact ⟨hbel, Ah, v1.segs.length, ch, Ar, nr, cr, LL, rfl, (HF.out.hq.keepTy (by decide) k9).base HF.out.b0, (HF.out.own.keepTy (by decide) k9).base HF.out.b0, fun r hr => ((HF.out.rows r hr).keepTy (by decide) (by decide) (by decide) k9).base HF.out.b0, HLL.out⟩
        · have HR1 := Lib.hid (show R = .error dx by rw [← HR.out, if_pos hd0])
          have hdi : ((dx : Int) == 0) = false := beq_eq_false_iff_ne.2 (by omega)
          go_wp2
          generalize hwf : World.setCell (World.setCell (World.setCell (World.setCell w30 _ _) _ _) _ _) _ _ = wf
          have hsf : setFrom w.heap.size w30 0 [.int .i64 0, .string { data := #[] }, .slice none 0 0, .slice none 0 0] = wf := by rw [← hwf]; rfl
          have hrow := HF.out.rr.all [.int .i64 0, .string { data := #[] }, .slice none 0 0, .slice none 0 0] rfl
          rw [hsf] at hrow
          have r0 := hrow.cellQ 0 _ rfl
          have r1 := hrow.cellQ 1 _ rfl
          have r2 := hrow.cellQ 2 _ rfl
          have r3 := hrow.cellQ 3 _ rfl
          refine bodyPost_ret (v := .tuple #[.agg #[.int .i64 0, .string { data := #[] }, .slice none 0 0, .slice none 0 0], .int .i64 (dx : Int)]) (by simp [results, Tryd.results14, go_sem, r0, r1, r2, r3]) rfl ?_
          have hbel : Below w.heap.size w wf := by rw [← hsf]; exact below_setFrom (Nat.le_refl _) _ 0 HF.out.bel
          rw [HR1.out]
          exact ⟨hbel, rfl, hd0⟩
  · rw [if_pos hx0]
    have HX0 := Lib.hid hx0
    have hxi : ((bx : Int) == 0) = false := beq_eq_false_iff_ne.2 (by omega)
    go_enter Tryd.func14, Tryd.ntmps14
    go_upto_region 1 with fail
    rw [HW1.out]
    go_wp2_with fail
    (with_reducible refine CB.out.mono ?_)
    rintro e w30 ⟨hb2, he2⟩
    rw [if_neg HX0.out] at he2
    subst he2
    have HB2 := Lib.hid (bt HB0.out hb2)
    have HR2 := Lib.hid (HR0.out.belowS hb2 (Nat.le_refl _))
    clear hb2 CB
    have z0 := HR2.out.cellQ 0 _ rfl
    have u0 := HR2.out.frozen 0
    have z1 := HR2.out.cellQ 1 _ rfl
    have u1 := HR2.out.frozen 1
    have z2 := HR2.out.cellQ 2 _ rfl
    have u2 := HR2.out.frozen 2
    have z3 := HR2.out.cellQ 3 _ rfl
    have u3 := HR2.out.frozen 3
    go_wp2
    generalize hwf : World.setCell (World.setCell (World.setCell (World.setCell w30 _ _) _ _) _ _) _ _ = wf
    have hsf : setFrom w.heap.size w30 0 [.int .i64 0, .string { data := #[] }, .slice none 0 0, .slice none 0 0] = wf := by rw [← hwf]; rfl
    have hrow := HR2.out.all [.int .i64 0, .string { data := #[] }, .slice none 0 0, .slice none 0 0] rfl
    rw [hsf] at hrow
    have r0 := hrow.cellQ 0 _ rfl
    have r1 := hrow.cellQ 1 _ rfl
    have r2 := hrow.cellQ 2 _ rfl
    have r3 := hrow.cellQ 3 _ rfl
    refine bodyPost_ret (v := .tuple #[.agg #[.int .i64 0, .string { data := #[] }, .slice none 0 0, .slice none 0 0], .int .i64 (bx : Int)]) (by simp [results, Tryd.results14, go_sem, r0, r1, r2, r3]) rfl ?_
    have hbel : Below w.heap.size w wf := by rw [← hsf]; exact below_setFrom (Nat.le_refl _) _ 0 HB2.out
    exact ⟨hbel, rfl, HX0.out⟩
end Go.Proofs.YtfgpaepdlmnhaaaDoor

namespace Go.Proofs.YtfgpaepdlmnhaaaDoor
set_option maxRecDepth 100000
set_option linter.unusedVariables false
namespace Hd
theorem inv_num {l : By} {s : RS} (h : (stNum l s).1.x = 0) : s.x = 0 ∧ (stNum l s).2 ≤ 4611686018427387904 ∧ l.drop s.at_ = Code.num (stNum l s).2 ++ l.drop (stNum l s).1.at_ := by
  unfold stNum at h ⊢
  by_cases hx : s.x = 0
  · rw [if_pos hx] at h ⊢
    cases hg : Code.getNum (l.drop s.at_) with
    | error e =>
      rw [hg] at h
      have := getNum_err hg
      simp only at h
      omega
    | ok r =>
      obtain ⟨v, k⟩ := r
      obtain ⟨h1, h2, _, h4, _⟩ := Code.getNum_ok hg
      refine ⟨hx, h2, ?_⟩
      show l.drop s.at_ = Code.num v ++ l.drop (s.at_ + k)
      rw [← h1, ← List.drop_drop, List.take_append_drop]
  · rw [if_neg hx] at h
    exact absurd h hx
theorem inv_text {l : By} {most : Int} {s : RS} (h : (stText l most s).1.x = 0) : s.x = 0 ∧ ((stText l most s).2.length : Int) ≤ most ∧ l.drop s.at_ = Code.text (stText l most s).2 ++ l.drop (stText l most s).1.at_ := by
  unfold stText at h ⊢
  by_cases hx : s.x = 0
  · rw [if_pos hx] at h ⊢
    cases hg : Code.getText most (l.drop s.at_) with
    | error e =>
      rw [hg] at h
      have := getText_err hg
      simp only at h
      omega
    | ok r =>
      obtain ⟨v, k⟩ := r
      obtain ⟨h1, _, _, h4, _⟩ := Code.getText_ok hg
      refine ⟨hx, h4, ?_⟩
      show l.drop s.at_ = Code.text v ++ l.drop (s.at_ + k)
      rw [← h1, ← List.drop_drop, List.take_append_drop]
  · rw [if_neg hx] at h
    exact absurd h hx
theorem inv_dig {l : By} {s : RS} (h : (stDig l s).1.x = 0) : s.x = 0 ∧ (stDig l s).2.length = 32 ∧ l.drop s.at_ = (stDig l s).2 ++ l.drop (stDig l s).1.at_ := by
  unfold stDig at h ⊢
  by_cases hx : s.x = 0
  · rw [if_pos hx] at h ⊢
    by_cases hm : l.length < s.at_ + 32
    · rw [if_pos hm] at h
      cases h
    · rw [if_neg hm]
      refine ⟨hx, ?_, ?_⟩
      · show ((l.take (s.at_ + 32)).drop s.at_).length = 32
        rw [List.length_drop, List.length_take]; omega
      · show l.drop s.at_ = (l.take (s.at_ + 32)).drop s.at_ ++ l.drop (s.at_ + 32)
        rw [List.drop_take, show s.at_ + 32 - s.at_ = 32 by omega, ← List.drop_drop, List.take_append_drop]
  · rw [if_neg hx] at h
    exact absurd h hx
theorem inv_count {l : By} {m : Nat} {s : RS} (h : (stCount l m s).1.x = 0) : s.x = 0 ∧ (stCount l m s).2 ≤ m ∧ l.drop s.at_ = Code.num (stCount l m s).2 ++ l.drop (stCount l m s).1.at_ := by
  unfold stCount at h ⊢
  by_cases hm : m < (stNum l s).2
  · rw [if_pos hm] at h; cases h
  · rw [if_neg hm] at h ⊢
    obtain ⟨h1, h2, h3⟩ := inv_num h
    exact ⟨h1, by omega, h3⟩
theorem inv_sg {l : By} {s : RS} {fr : Int} (h : (stSg l s fr).1.x = 0) : s.x = 0 ∧ l.drop s.at_ = (stSg l s fr).2.bytes ++ l.drop (stSg l s fr).1.at_ := by
  unfold stSg at h ⊢
  simp only at h ⊢
  obtain ⟨a1, a2, a3⟩ := inv_dig h
  obtain ⟨b1, b2, b3⟩ := inv_num a1
  obtain ⟨c1, c2, c3⟩ := inv_num b1
  refine ⟨c1, ?_⟩
  rw [c3, b3, a3]
  unfold Sg.bytes
  simp
theorem inv_K {l : By} {s0 : RS} : ∀ k, (stK l s0 k).1.x = 0 → s0.x = 0 ∧ l.drop s0.at_ = (stK l s0 k).2.2.flatMap Sg.bytes ++ l.drop (stK l s0 k).1.at_
  | 0, h => by simp only [stK] at h ⊢; exact ⟨h, by simp⟩
  | k + 1, h => by
    simp only [stK] at h ⊢
    obtain ⟨a1, a2⟩ := inv_sg h
    obtain ⟨b1, b2⟩ := inv_K k a1
    refine ⟨b1, ?_⟩
    rw [b2, a2, List.flatMap_append]
    simp
theorem done_inv {l : By} {s : RS} (h : doneX l s = 0) : s.x = 0 ∧ l.drop s.at_ = [] := by
  unfold doneX at h
  by_cases hx : s.x = 0
  · rw [if_neg (by simpa using hx)] at h
    by_cases hl : s.at_ < l.length
    · rw [if_pos hl] at h; cases h
    · exact ⟨hx, List.drop_eq_nil_of_le (by omega)⟩
  · rw [if_pos hx] at h; exact absurd h hx
theorem rdHd_inv {l : By} {h : H} (e : rdHd l = .ok h) : h.ok = true ∧ h.bytes = l := by
  unfold rdHd at e
  split at e
  · cases e
  · split at e
    · cases e
    · rename_i hd
      split at e
      · rename_i ok
        injection e with e
        obtain ⟨a1, a2⟩ := done_inv (by simpa using hd)
        obtain ⟨b1, b2⟩ := inv_K _ a1
        obtain ⟨c1, c2, c3⟩ := inv_num b1
        obtain ⟨d1, d2, d3⟩ := inv_dig c1
        obtain ⟨f1, f2, f3⟩ := inv_num d1
        rw [e] at ok
        refine ⟨ok, ?_⟩
        rw [← e]
        unfold H.bytes
        have hl : l = l.drop (⟨0, 0⟩ : RS).at_ := rfl
        conv => rhs; rw [hl, f3, d3, c3, b2, a2]
        simp only [Int.toNat_natCast, stK_len, List.append_nil]
      · cases e
theorem inv_head {l : By} {s : RS} (h : (stHead l s).1.x = 0) : s.x = 0 ∧ (stHead l s).2.ok = true ∧ l.drop s.at_ = Code.text (stHead l s).2.bytes ++ l.drop (stHead l s).1.at_ := by
  unfold stHead at h ⊢
  by_cases hx : (stText l 10000 s).1.x ≠ 0
  · rw [if_pos hx] at h; exact absurd h hx
  · rw [if_neg hx] at h ⊢
    obtain ⟨a1, a2, a3⟩ := inv_text (by simpa using hx)
    cases hr : rdHd (stText l 10000 s).2 with
    | error x =>
      rw [hr] at h
      have hz : x ≠ 0 := by
        unfold rdHd at hr
        split at hr
        · injection hr with hr; omega
        · split at hr
          · rename_i hd
            injection hr with hr
            rw [← hr]; exact hd
          · split at hr
            · cases hr
            · injection hr with hr; omega
      exact absurd h hz
    | ok hh =>
      obtain ⟨b1, b2⟩ := rdHd_inv hr
      refine ⟨a1, b1, ?_⟩
      show l.drop s.at_ = Code.text hh.bytes ++ l.drop (stText l 10000 s).1.at_
      rw [b2]; exact a3
theorem inv_DK {l : By} {s0 : RS} : ∀ k, (stDK l s0 k).1.x = 0 → s0.x = 0 ∧ (∀ d ∈ (stDK l s0 k).2, d.length = 32) ∧ l.drop s0.at_ = (stDK l s0 k).2.flatten ++ l.drop (stDK l s0 k).1.at_
  | 0, h => by simp only [stDK] at h ⊢; exact ⟨h, by simp, by simp⟩
  | k + 1, h => by
    simp only [stDK] at h ⊢
    obtain ⟨a1, a2, a3⟩ := inv_dig h
    obtain ⟨b1, b2, b3⟩ := inv_DK k a1
    refine ⟨b1, fun d hd => ?_, ?_⟩
    · rcases List.mem_append.1 hd with hd | hd
      · exact b2 d hd
      · rw [List.mem_singleton.1 hd]; exact a2
    · rw [b3, a3, List.flatten_append]
      simp
theorem inv_path {l : By} {s : RS} (h : (stPath l s).1.x = 0) : s.x = 0 ∧ pathsOk (stPath l s).2 = true ∧ l.drop s.at_ = pathB (stPath l s).2 ++ l.drop (stPath l s).1.at_ := by
  unfold stPath at h ⊢
  obtain ⟨a1, a2, a3⟩ := inv_DK _ h
  obtain ⟨b1, b2, b3⟩ := inv_count a1
  have hl := stDK_len l (stCount l 64 s).1 (stCount l 64 s).2
  refine ⟨b1, ?_, ?_⟩
  · unfold pathsOk
    simp only [Bool.and_eq_true, decide_eq_true_eq]
    exact ⟨by omega, all32_iff.2 a2⟩
  · unfold pathB
    rw [hl, b3, a3]
    simp
theorem beg_inv {l : By} {k : UInt8} (h : begX l k = 0) : l.length ≤ 1048576 ∧ l = k :: l.drop 1 := by
  unfold begX at h
  by_cases h3 : 1048576 < l.length
  · rw [if_pos h3] at h; cases h
  · rw [if_neg h3] at h
    cases l with
    | nil => cases h
    | cons b l =>
      simp only at h
      by_cases hb : b = k
      · subst hb; exact ⟨by omega, rfl⟩
      · rw [if_neg hb] at h; cases h
theorem rdPage_inv {l : By} {p : Pg} (e : rdPage l = .ok p) : p.fair = true ∧ p.bytes = l ∧ begX l 2 = 0 := by
  unfold rdPage at e
  by_cases hb : begX l 2 ≠ 0
  · rw [if_pos hb] at e; cases e
  · rw [if_neg hb] at e
    simp only at e
    split at e
    · cases e
    · rename_i hd
      injection e with e
      obtain ⟨a1, a2⟩ := done_inv (by simpa using hd)
      obtain ⟨b1, b2, b3⟩ := inv_path a1
      obtain ⟨c1, c2, c3⟩ := inv_text b1
      obtain ⟨d1, d2, d3⟩ := inv_num c1
      obtain ⟨f1, f2, f3⟩ := inv_head d1
      have hb0 : begX l 2 = 0 := by simpa using hb
      obtain ⟨_, hl⟩ := beg_inv hb0
      rw [← e]
      refine ⟨Pg.fair_iff.2 ⟨f2, ⟨by show (0 : Int) ≤ ((stNum l (stHead l ⟨1, 0⟩).1).2 : Int); omega, by show ((stNum l (stHead l ⟨1, 0⟩).1).2 : Int) ≤ _; omega⟩, by show (stText l 2000 (stNum l (stHead l ⟨1, 0⟩).1).1).2.length ≤ 2000; omega, b2⟩, ?_, hb0⟩
      unfold Pg.bytes
      conv => rhs; rw [hl]
      have f3' : l.drop 1 = Code.text (stHead l ⟨1, 0⟩).2.bytes ++ l.drop (stHead l ⟨1, 0⟩).1.at_ := f3
      rw [f3', d3, c3, b3, a2]
      simp
theorem rdStep_inv {l : By} {p : Stp} (e : rdStep l = .ok p) : p.fair = true ∧ p.bytes = l ∧ begX l 3 = 0 := by
  unfold rdStep at e
  by_cases hb : begX l 3 ≠ 0
  · rw [if_pos hb] at e; cases e
  · rw [if_neg hb] at e
    simp only at e
    split at e
    · cases e
    · rename_i hd
      injection e with e
      obtain ⟨a1, a2⟩ := done_inv (by simpa using hd)
      obtain ⟨b1, b2, b3⟩ := inv_path a1
      obtain ⟨c1, c2, c3⟩ := inv_head b1
      obtain ⟨f1, f2, f3⟩ := inv_head c1
      have hb0 : begX l 3 = 0 := by simpa using hb
      obtain ⟨_, hl⟩ := beg_inv hb0
      rw [← e]
      refine ⟨Stp.fair_iff.2 ⟨f2, c2, b2⟩, ?_, hb0⟩
      unfold Stp.bytes
      conv => rhs; rw [hl]
      have f3' : l.drop 1 = Code.text (stHead l ⟨1, 0⟩).2.bytes ++ l.drop (stHead l ⟨1, 0⟩).1.at_ := f3
      rw [f3', c3, b3, a2]
      simp
end Hd
end Go.Proofs.YtfgpaepdlmnhaaaDoor

namespace Go.Proofs.YtfgpaepdlmnhaaaDoor
set_option maxRecDepth 100000
set_option linter.unusedVariables false
namespace Hd
/-! Links. -/
theorem Lk.may_iff {k : Lk} : k.may = true ↔ k.term.length ≤ 64 ∧ k.next.length ≤ 64 ∧ k.posts.length = 32 := by
  unfold Lk.may
  simp only [Bool.and_eq_true, decide_eq_true_eq]
theorem Lk.bytes_le {k : Lk} (h : k.may = true) : k.bytes.length ≤ 178 := by
  obtain ⟨h1, h2, h3⟩ := Lk.may_iff.1 h
  have a1 := text_le h1 (by omega)
  have a2 := text_le h2 (by omega)
  unfold Lk.bytes
  rw [List.length_append, List.length_append]
  omega
theorem rdLk_bytes {k : Lk} (h : k.may = true) : rdLk k.bytes = .ok k := by
  obtain ⟨h1, h2, h3⟩ := Lk.may_iff.1 h
  have d0 : k.bytes.drop 0 = Code.text k.term ++ (Code.text k.next ++ (k.posts ++ [])) := by unfold Lk.bytes; simp
  have e0 := stText_of (most := 64) d0 (by omega) (by omega)
  have d1 := drop_add d0
  have e1 := stText_of (most := 64) d1 (by omega) (by omega)
  have d2 := drop_add d1
  have e2 := stDig_of d2 h3
  have d3 := drop_add d2
  have hlen := congrArg List.length d3
  rw [List.length_drop, List.length_nil, h3] at hlen
  unfold rdLk
  simp only [e0, e1, e2]
  rw [if_neg]
  unfold doneX
  simp only [ne_eq, not_true, if_false]
  rw [if_neg (by omega)]
  simp
theorem rdLk_inv {l : By} {k : Lk} (e : rdLk l = .ok k) : k.may = true ∧ k.bytes = l := by
  unfold rdLk at e
  split at e
  · cases e
  · rename_i hd
    injection e with e
    obtain ⟨a1, a2⟩ := done_inv (by simpa using hd)
    obtain ⟨b1, b2, b3⟩ := inv_dig a1
    obtain ⟨c1, c2, c3⟩ := inv_text b1
    obtain ⟨f1, f2, f3⟩ := inv_text c1
    rw [← e]
    refine ⟨Lk.may_iff.2 ⟨by show (stText l 64 ⟨0, 0⟩).2.length ≤ 64; omega, by show (stText l 64 (stText l 64 ⟨0, 0⟩).1).2.length ≤ 64; omega, b2⟩, ?_⟩
    unfold Lk.bytes
    have hl : l = l.drop (⟨0, 0⟩ : RS).at_ := rfl
    conv => rhs; rw [hl, f3, c3, b3, a2]
    simp
theorem rdLk_err {l : By} {x : Nat} (e : rdLk l = .error x) : x ≠ 0 := by
  unfold rdLk at e
  split at e
  · rename_i hd
    injection e with e
    rw [← e]; exact hd
  · cases e
/-! Proofs. -/
def Pf.may (p : Pf) : Bool := decide (0 ≤ p.at_) && (decide (p.at_ ≤ 4611686018427387904) && (p.link.may && (pathsOk p.path && decide (p.docs.length ≤ 4000))))
def Pf.bytes (p : Pf) : By := ((Code.num p.at_.toNat ++ Code.text p.link.bytes) ++ pathB p.path) ++ Code.text p.docs
theorem Pf.may_iff {p : Pf} : p.may = true ↔ (0 ≤ p.at_ ∧ p.at_ ≤ 4611686018427387904) ∧ p.link.may = true ∧ pathsOk p.path = true ∧ p.docs.length ≤ 4000 := by
  unfold Pf.may
  simp only [Bool.and_eq_true, decide_eq_true_eq, and_assoc]
theorem wProof_ok (s : WS) {p : Pf} (h : p.may = true) : wProof s p = ⟨s.l ++ p.bytes, s.bad⟩ := by
  obtain ⟨h1, h2, h3, h4⟩ := Pf.may_iff.1 h
  unfold wProof
  rw [show p.link.wr = some p.link.bytes from if_pos h2]
  simp only
  rw [wNum_ok s h1, wText_ok (b := p.link.bytes) (m := 200) _ (by have := Lk.bytes_le h2; omega), wPath_ok _ h3, wText_ok (b := p.docs) (m := 4000) _ h4]
  unfold Pf.bytes
  simp
theorem wProof_bad (s : WS) (p : Pf) : (wProof s p).bad = (s.bad || !p.may) := by
  cases h : p.may with
  | true => rw [wProof_ok s h]; simp
  | false =>
    unfold wProof
    cases hl : p.link.may with
    | false => rw [show p.link.wr = none from if_neg (by rw [hl]; decide)]; simp
    | true =>
      rw [show p.link.wr = some p.link.bytes from if_pos hl]
      simp only
      rw [wText_bad, wPath_bad, wText_bad, wNum_bad]
      unfold Pf.may at h
      rw [hl] at h
      have hb : decide (p.link.bytes.length ≤ 200) = true := decide_eq_true (by have := Lk.bytes_le hl; omega)
      rw [hb]
      revert h
      generalize decide (0 ≤ p.at_) = a
      generalize decide (p.at_ ≤ 4611686018427387904) = b
      generalize pathsOk p.path = c
      generalize decide (p.docs.length ≤ 4000) = d
      cases a <;> cases b <;> cases c <;> cases d <;> simp
theorem stLink_of {l r : By} {a : Nat} {k : Lk} (h : k.may = true) (e : l.drop a = Code.text k.bytes ++ r) : stLink l ⟨a, 0⟩ = (⟨a + (Code.text k.bytes).length, 0⟩, k) := by
  have hl := Lk.bytes_le h
  have e1 := stText_of (most := 200) e (by omega) (by omega)
  unfold stLink
  rw [e1]
  simp only [ne_eq, not_true, if_false, rdLk_bytes h]
  rfl
theorem inv_link {l : By} {s : RS} (h : (stLink l s).1.x = 0) : s.x = 0 ∧ (stLink l s).2.may = true ∧ l.drop s.at_ = Code.text (stLink l s).2.bytes ++ l.drop (stLink l s).1.at_ := by
  unfold stLink at h ⊢
  by_cases hx : (stText l 200 s).1.x ≠ 0
  · rw [if_pos hx] at h; exact absurd h hx
  · rw [if_neg hx] at h ⊢
    obtain ⟨a1, a2, a3⟩ := inv_text (by simpa using hx)
    cases hr : rdLk (stText l 200 s).2 with
    | error x =>
      rw [hr] at h
      exact absurd h (rdLk_err hr)
    | ok k =>
      obtain ⟨b1, b2⟩ := rdLk_inv hr
      refine ⟨a1, b1, ?_⟩
      show l.drop s.at_ = Code.text k.bytes ++ l.drop (stText l 200 s).1.at_
      rw [b2]; exact a3
theorem stProof_of {l r : By} {a : Nat} {p : Pf} (h : p.may = true) (e : l.drop a = p.bytes ++ r) : stProof l ⟨a, 0⟩ = (⟨a + p.bytes.length, 0⟩, p) := by
  obtain ⟨h1, h2, h3, h4⟩ := Pf.may_iff.1 h
  have d0 : l.drop a = Code.num p.at_.toNat ++ (Code.text p.link.bytes ++ (pathB p.path ++ (Code.text p.docs ++ r))) := by rw [e]; unfold Pf.bytes; simp
  have e0 := stNum_of d0 (by omega)
  have d1 := drop_add d0
  have e1 := stLink_of h2 d1
  have d2 := drop_add d1
  have e2 := stPath_of h3 d2
  have d3 := drop_add d2
  have e3 := stText_of (most := 4000) d3 (by omega) (by omega)
  unfold stProof
  simp only [e0, e1, e2, e3]
  rw [num_int h1.1]
  have hb : p.bytes.length = (Code.num p.at_.toNat).length + (Code.text p.link.bytes).length + (pathB p.path).length + (Code.text p.docs).length := by unfold Pf.bytes; simp only [List.length_append]
  rw [hb]
  simp only [Nat.add_assoc]
theorem inv_proof {l : By} {s : RS} (h : (stProof l s).1.x = 0) : s.x = 0 ∧ (stProof l s).2.may = true ∧ l.drop s.at_ = (stProof l s).2.bytes ++ l.drop (stProof l s).1.at_ := by
  unfold stProof at h ⊢
  simp only at h ⊢
  obtain ⟨a1, a2, a3⟩ := inv_text h
  obtain ⟨b1, b2, b3⟩ := inv_path a1
  obtain ⟨c1, c2, c3⟩ := inv_link b1
  obtain ⟨d1, d2, d3⟩ := inv_num c1
  refine ⟨d1, Pf.may_iff.2 ⟨⟨by show (0 : Int) ≤ ((stNum l s).2 : Int); omega, by show ((stNum l s).2 : Int) ≤ _; omega⟩, c2, b2, by show (stText l 4000 (stPath l (stLink l (stNum l s).1).1).1).2.length ≤ 4000; omega⟩, ?_⟩
  unfold Pf.bytes
  rw [d3, c3, b3, a3]
  simp
/-! Rows of proofs. -/
def rowB (l : List Pf) : By := Code.num l.length ++ l.flatMap Pf.bytes
theorem wRow_bad (s : WS) (l : List Pf) (hl : l.length ≤ 16) : (wRow s l).bad = (s.bad || !l.all Pf.may) := by
  unfold wRow
  have h : ∀ (l : List Pf) (s : WS), (l.foldl wProof s).bad = (s.bad || !l.all Pf.may) := by
    intro l
    induction l with
    | nil => intro s; simp
    | cons p l ih => intro s; rw [List.foldl_cons, ih, wProof_bad, List.all_cons]; cases s.bad <;> cases p.may <;> simp
  rw [h, wNum_bad]
  simp only [show (0 : Int) ≤ (l.length : Int) by omega, show (l.length : Int) ≤ 4611686018427387904 by omega, decide_true, Bool.and_self, Bool.not_true, Bool.or_false]
theorem wRow_ok (s : WS) {l : List Pf} (hl : l.length ≤ 16) (h : l.all Pf.may = true) : wRow s l = ⟨s.l ++ rowB l, s.bad⟩ := by
  unfold wRow
  have hf : ∀ (l : List Pf) (s : WS), l.all Pf.may = true → l.foldl wProof s = ⟨s.l ++ l.flatMap Pf.bytes, s.bad⟩ := by
    intro l
    induction l with
    | nil => intro s _; simp
    | cons p l ih =>
      intro s hp
      rw [List.all_cons, Bool.and_eq_true] at hp
      rw [List.foldl_cons, wProof_ok s hp.1, ih _ hp.2]
      simp
  rw [wNum_ok s ⟨by omega, by omega⟩, hf l _ h]
  unfold rowB
  simp
def rowsOk (L : List (List Pf)) : Bool := L.all fun l => decide (l.length ≤ 16) && l.all Pf.may
theorem wRows_ok : ∀ (L : List (List Pf)) (s : WS), rowsOk L = true → wRows s L = some ⟨s.l ++ L.flatMap rowB, s.bad⟩
  | [], s, _ => by simp [wRows]
  | l :: L, s, h => by
    unfold rowsOk at h
    rw [List.all_cons] at h
    simp only [Bool.and_eq_true, decide_eq_true_eq] at h
    rw [wRows, if_neg (by omega), wRow_ok s h.1.1 h.1.2, wRows_ok L _ h.2]
    simp
theorem wRows_no : ∀ (L : List (List Pf)) (s : WS), (rowsOk L = false ∨ s.bad = true) → finO (wRows s L) = .error 1
  | [], s, h => by
    rcases h with h | h
    · cases h
    · show wEnd s = _; unfold wEnd; rw [if_pos h]
  | l :: L, s, h => by
    rw [wRows]
    by_cases hl : 16 < l.length
    · rw [if_pos hl]; rfl
    · rw [if_neg hl]
      refine wRows_no L _ ?_
      rw [wRow_bad s l (by omega)]
      unfold rowsOk at h ⊢
      rw [List.all_cons, decide_eq_true (show l.length ≤ 16 by omega), Bool.true_and] at h
      cases hp : l.all Pf.may with
      | false => exact .inr (by simp)
      | true =>
        rw [hp, Bool.true_and] at h
        rcases h with h | h
        · exact .inl h
        · exact .inr (by rw [h]; rfl)
def An.fair (a : An) : Bool := a.h.ok && (decide (a.rows.length = a.h.segs.length) && rowsOk a.rows)
def An.bytes (a : An) : By := ([1] ++ Code.text a.h.bytes) ++ a.rows.flatMap rowB
theorem An.fair_iff {a : An} : a.fair = true ↔ a.h.ok = true ∧ a.rows.length = a.h.segs.length ∧ rowsOk a.rows = true := by
  unfold An.fair
  simp only [Bool.and_eq_true, decide_eq_true_eq]
theorem wrAns_no {a : An} (h : a.fair = false) : wrAns a = .error 1 := by
  unfold wrAns
  by_cases hl : a.rows.length ≠ a.h.segs.length
  · rw [if_pos hl]
  · rw [if_neg hl]
    refine wRows_no _ _ ?_
    unfold An.fair at h
    rw [decide_eq_true (show a.rows.length = a.h.segs.length by omega), Bool.true_and] at h
    rw [wHead_bad]
    cases ho : a.h.ok with
    | false => exact .inr (by simp)
    | true => rw [ho, Bool.true_and] at h; exact .inl h
theorem wrAns_ok {a : An} (h : a.fair = true) : wrAns a = if 1048576 < a.bytes.length then .error 3 else .ok a.bytes := by
  obtain ⟨h1, h2, h3⟩ := An.fair_iff.1 h
  unfold wrAns
  rw [if_neg (by omega), wHead_ok _ h1, wRows_ok _ _ h3]
  show wEnd ⟨a.bytes, false⟩ = _
  unfold wEnd
  simp only [Bool.false_eq_true, if_false]
theorem stPK_of {l r : By} {a : Nat} {L : List Pf} (hok : ∀ p ∈ L, p.may = true) (h : l.drop a = L.flatMap Pf.bytes ++ r) : ∀ k, k ≤ L.length → stPK l ⟨a, 0⟩ k = (⟨a + ((L.take k).flatMap Pf.bytes).length, 0⟩, L.take k)
  | 0, _ => by simp [stPK]
  | k + 1, hk => by
    have ih := stPK_of hok h k (by omega)
    have hs : L[k]? = some L[k] := List.getElem?_eq_getElem (by omega)
    have hd : l.drop (a + ((L.take k).flatMap Pf.bytes).length) = L[k].bytes ++ ((L.drop (k + 1)).flatMap Pf.bytes ++ r) := by
      refine drop_add (x := (L.take k).flatMap Pf.bytes) ?_
      rw [h]
      conv => lhs; rw [← List.take_append_drop k L]
      rw [List.flatMap_append, List.drop_eq_getElem_cons (by omega : k < L.length), List.flatMap_cons]
      simp
    have e := stProof_of (hok L[k] (List.getElem_mem _)) hd
    unfold stPK
    rw [ih]
    simp only [e]
    have ht : L.take (k + 1) = L.take k ++ [L[k]] := by rw [List.take_add_one, hs]; rfl
    rw [ht]
    simp only [List.flatMap_append, List.flatMap_cons, List.flatMap_nil, List.append_nil, List.length_append, Nat.add_assoc]
theorem stRow_of {l r : By} {a : Nat} {L : List Pf} (hl : L.length ≤ 16) (hok : L.all Pf.may = true) (h : l.drop a = rowB L ++ r) : stRow l ⟨a, 0⟩ = (⟨a + (rowB L).length, 0⟩, L) := by
  have h1 : l.drop a = Code.num L.length ++ (L.flatMap Pf.bytes ++ r) := by rw [h]; unfold rowB; simp
  have e1 := stNum_of h1 (by omega)
  have h2 := drop_add h1
  have e2 := stPK_of (fun p hp => List.all_eq_true.1 hok p hp) h2 L.length (Nat.le_refl _)
  rw [List.take_length] at e2
  unfold stRow stCount
  simp only [e1]
  rw [if_neg (by omega), e2]
  unfold rowB
  rw [List.length_append, Nat.add_assoc]
theorem stRK_of {l r : By} {a : Nat} {L : List (List Pf)} (hok : rowsOk L = true) (h : l.drop a = L.flatMap rowB ++ r) : ∀ k, k ≤ L.length → stRK l ⟨a, 0⟩ k = (⟨a + ((L.take k).flatMap rowB).length, 0⟩, L.take k)
  | 0, _ => by simp [stRK]
  | k + 1, hk => by
    have ih := stRK_of hok h k (by omega)
    have hs : L[k]? = some L[k] := List.getElem?_eq_getElem (by omega)
    have hd : l.drop (a + ((L.take k).flatMap rowB).length) = rowB L[k] ++ ((L.drop (k + 1)).flatMap rowB ++ r) := by
      refine drop_add (x := (L.take k).flatMap rowB) ?_
      rw [h]
      conv => lhs; rw [← List.take_append_drop k L]
      rw [List.flatMap_append, List.drop_eq_getElem_cons (by omega : k < L.length), List.flatMap_cons]
      simp
    have hk2 := List.all_eq_true.1 hok L[k] (List.getElem_mem _)
    simp only [Bool.and_eq_true, decide_eq_true_eq] at hk2
    have e := stRow_of hk2.1 hk2.2 hd
    unfold stRK
    rw [ih]
    simp only [e]
    have ht : L.take (k + 1) = L.take k ++ [L[k]] := by rw [List.take_add_one, hs]; rfl
    rw [ht]
    simp only [List.flatMap_append, List.flatMap_cons, List.flatMap_nil, List.append_nil, List.length_append, Nat.add_assoc]
theorem rdAns_bytes {a : An} (h : a.fair = true) (hb : a.bytes.length ≤ 1048576) : rdAns a.bytes = .ok a := by
  obtain ⟨h1, h2, h3⟩ := An.fair_iff.1 h
  have hbx : begX a.bytes 1 = 0 := by
    unfold begX
    rw [if_neg (by omega)]
    unfold An.bytes
    rfl
  have d0 : a.bytes.drop 1 = Code.text a.h.bytes ++ (a.rows.flatMap rowB ++ []) := by unfold An.bytes; simp
  have e0 := stHead_of h1 d0
  have d1 := drop_add d0
  have e1 := stRK_of h3 d1 a.rows.length (Nat.le_refl _)
  rw [List.take_length] at e1
  have d2 := drop_add d1
  have hlen := congrArg List.length d2
  rw [List.length_drop, List.length_nil] at hlen
  unfold rdAns
  rw [hbx]
  simp only [ne_eq, not_true, if_false, e0]
  rw [← h2, e1]
  rw [if_neg]
  unfold doneX
  simp only [ne_eq, not_true, if_false]
  rw [if_neg (by omega)]
  simp
theorem inv_PK {l : By} {s0 : RS} : ∀ k, (stPK l s0 k).1.x = 0 → s0.x = 0 ∧ (stPK l s0 k).2.all Pf.may = true ∧ l.drop s0.at_ = (stPK l s0 k).2.flatMap Pf.bytes ++ l.drop (stPK l s0 k).1.at_
  | 0, h => by simp only [stPK] at h ⊢; exact ⟨h, by simp, by simp⟩
  | k + 1, h => by
    simp only [stPK] at h ⊢
    obtain ⟨a1, a2, a3⟩ := inv_proof h
    obtain ⟨b1, b2, b3⟩ := inv_PK k a1
    refine ⟨b1, by rw [List.all_append, b2]; simpa using a2, ?_⟩
    rw [b3, a3, List.flatMap_append]
    simp
theorem inv_row {l : By} {s : RS} (h : (stRow l s).1.x = 0) : s.x = 0 ∧ (stRow l s).2.length ≤ 16 ∧ (stRow l s).2.all Pf.may = true ∧ l.drop s.at_ = rowB (stRow l s).2 ++ l.drop (stRow l s).1.at_ := by
  unfold stRow at h ⊢
  obtain ⟨a1, a2, a3⟩ := inv_PK _ h
  obtain ⟨b1, b2, b3⟩ := inv_count a1
  have hl := stPK_len l (stCount l 16 s).1 (stCount l 16 s).2
  refine ⟨b1, by omega, a2, ?_⟩
  unfold rowB
  rw [hl, b3, a3]
  simp
theorem inv_RK {l : By} {s0 : RS} : ∀ k, (stRK l s0 k).1.x = 0 → s0.x = 0 ∧ rowsOk (stRK l s0 k).2 = true ∧ l.drop s0.at_ = (stRK l s0 k).2.flatMap rowB ++ l.drop (stRK l s0 k).1.at_
  | 0, h => by simp only [stRK] at h ⊢; exact ⟨h, rfl, by simp⟩
  | k + 1, h => by
    simp only [stRK] at h ⊢
    obtain ⟨a1, a2, a3, a4⟩ := inv_row h
    obtain ⟨b1, b2, b3⟩ := inv_RK k a1
    refine ⟨b1, ?_, ?_⟩
    · unfold rowsOk at b2 ⊢
      rw [List.all_append, b2]
      simp [a2, a3]
    · rw [b3, a4, List.flatMap_append]
      simp
theorem rdAns_inv {l : By} {a : An} (e : rdAns l = .ok a) : a.fair = true ∧ a.bytes = l ∧ begX l 1 = 0 := by
  unfold rdAns at e
  by_cases hb : begX l 1 ≠ 0
  · rw [if_pos hb] at e; cases e
  · rw [if_neg hb] at e
    split at e
    · cases e
    · rename_i hd
      injection e with e
      obtain ⟨a1, a2⟩ := done_inv (by simpa using hd)
      obtain ⟨b1, b2, b3⟩ := inv_RK _ a1
      obtain ⟨f1, f2, f3⟩ := inv_head b1
      have hb0 : begX l 1 = 0 := by simpa using hb
      obtain ⟨_, hl⟩ := beg_inv hb0
      rw [← e]
      refine ⟨An.fair_iff.2 ⟨f2, stRK_len _ _ _, b2⟩, ?_, hb0⟩
      unfold An.bytes
      conv => rhs; rw [hl]
      have f3' : l.drop 1 = Code.text (stHead l ⟨1, 0⟩).2.bytes ++ l.drop (stHead l ⟨1, 0⟩).1.at_ := f3
      rw [f3', b3, a2]
      simp
theorem Pf.small_of {p : Pf} (h : p.may = true) : p.Small := by
  obtain ⟨h1, h2, h3, h4⟩ := Pf.may_iff.1 h
  unfold pathsOk at h3
  simp only [Bool.and_eq_true] at h3
  exact ⟨by omega, by omega, fun d hd => by rw [all32_iff.1 h3.2 d hd]; omega⟩
end Hd
end Go.Proofs.YtfgpaepdlmnhaaaDoor
