/- A proof as the document's, whether it may be, and its bytes. No statement of the seat is proved here. -/
import Derived.Test.YtfgpaepdlmnhaaaDoorMReplyE
namespace Go.Proofs.YtfgpaepdlmnhaaaDoor
set_option maxRecDepth 100000
set_option linter.unusedVariables false
open Go.RowKit
set_option maxRecDepth 100000 in
set_option maxHeartbeats 8000000 in
theorem asProof_any (Ap : Option Addr) (np cp : Nat) (Ad : Option Addr) (nd cd : Nat) (p : Hd.Pf) (w : World) : Calls Tryd.prog 48 #[.agg #[.int .i64 p.at_, sv p.link.term, sv p.link.next, sv p.link.posts, .slice Ap np cp, .slice Ad nd cd]] w (RetV (.agg #[.int .i64 p.at_, sv p.link.term, sv p.link.next, sv p.link.posts, .slice Ap np cp, .slice Ad nd cd]) w) := by
  have h1 := row_new w #[.int .i64 p.at_, sv p.link.term, sv p.link.next, sv p.link.posts, .slice Ap np cp, .slice Ad nd cd] 79
  have h2 := row_new (w.alloc (.cells #[.int .i64 p.at_, sv p.link.term, sv p.link.next, sv p.link.posts, .slice Ap np cp, .slice Ad nd cd] 79)) #[.int .i64 0, .string { data := #[] }, .string { data := #[] }, .string { data := #[] }, .slice none 0 0, .slice none 0 0] 108
  rw [size_alloc] at h2
  have hb := ((Below.refl w.heap.size w).alloc (Nat.le_refl _) (.cells #[.int .i64 p.at_, sv p.link.term, sv p.link.next, sv p.link.posts, .slice Ap np cp, .slice Ad nd cd] 79)).alloc (by rw [size_alloc]; omega) (.cells #[.int .i64 0, .string { data := #[] }, .string { data := #[] }, .string { data := #[] }, .slice none 0 0, .slice none 0 0] 108)
  have h1 := h1.alloc (.cells #[.int .i64 0, .string { data := #[] }, .string { data := #[] }, .string { data := #[] }, .slice none 0 0, .slice none 0 0] 108)
  obtain ⟨w1, hw1⟩ : ∃ W, (w.alloc (.cells #[.int .i64 p.at_, sv p.link.term, sv p.link.next, sv p.link.posts, .slice Ap np cp, .slice Ad nd cd] 79)).alloc (.cells #[.int .i64 0, .string { data := #[] }, .string { data := #[] }, .string { data := #[] }, .slice none 0 0, .slice none 0 0] 108) = W := ⟨_, rfl⟩
  rw [hw1] at h1 h2 hb
  have HW1 := Lib.hid hw1
  have HB := Lib.hid hb
  have HR := Lib.hid h2
  clear hw1 hb
  go_enter Tryd.func48, Tryd.ntmps48
  go_upto_region 1 with fail
  rw [HW1.out]
  have x0 := h1.cellQ 0 _ rfl
  have x1 := h1.cellQ 1 _ rfl
  have x2 := h1.cellQ 2 _ rfl
  have x3 := h1.cellQ 3 _ rfl
  have x4 := h1.cellQ 4 _ rfl
  have x5 := h1.cellQ 5 _ rfl
  have z0 := h2.cellQ 0 _ rfl
  have y0 := h2.frozen 0
  have z1 := h2.cellQ 1 _ rfl
  have y1 := h2.frozen 1
  have z2 := h2.cellQ 2 _ rfl
  have y2 := h2.frozen 2
  have z3 := h2.cellQ 3 _ rfl
  have y3 := h2.frozen 3
  have z4 := h2.cellQ 4 _ rfl
  have y4 := h2.frozen 4
  have z5 := h2.cellQ 5 _ rfl
  have y5 := h2.frozen 5
  clear h1 h2
  go_wp2
  generalize hwf : World.setCell (World.setCell (World.setCell (World.setCell (World.setCell (World.setCell w1 _ _) _ _) _ _) _ _) _ _) _ _ = wf
  have hsf : setFrom (w.heap.size + 1) w1 0 [.int .i64 p.at_, sv p.link.term, sv p.link.next, sv p.link.posts, .slice Ap np cp, .slice Ad nd cd] = wf := by rw [← hwf]; rfl
  have hrow := HR.out.all [.int .i64 p.at_, sv p.link.term, sv p.link.next, sv p.link.posts, .slice Ap np cp, .slice Ad nd cd] rfl
  rw [hsf] at hrow
  have r0 := hrow.cellQ 0 _ rfl
  have r1 := hrow.cellQ 1 _ rfl
  have r2 := hrow.cellQ 2 _ rfl
  have r3 := hrow.cellQ 3 _ rfl
  have r4 := hrow.cellQ 4 _ rfl
  have r5 := hrow.cellQ 5 _ rfl
  refine bodyPost_ret (v := .agg #[.int .i64 p.at_, sv p.link.term, sv p.link.next, sv p.link.posts, .slice Ap np cp, .slice Ad nd cd]) (by simp [results, Tryd.results48, go_sem, r0, r1, r2, r3, r4, r5]) rfl ?_
  exact ⟨rfl, by rw [← hsf]; exact below_setFrom (by omega) _ 0 HB.out⟩
set_option maxRecDepth 100000 in
set_option maxHeartbeats 8000000 in
theorem may18_any (Ap : Option Addr) (np cp : Nat) (Ad : Option Addr) (nd cd : Nat) (p : Hd.Pf) (w : World) (hp : Ss w Ap np cp p.path) (hl : ∀ d ∈ p.path, d.length ≤ 1000000) (hd : p.docs.length = nd) : Calls Tryd.prog 46 #[.agg #[.int .i64 p.at_, sv p.link.term, sv p.link.next, sv p.link.posts, .slice Ap np cp, .slice Ad nd cd]] w (RetB p.may w) := by
  have h1 := row_new w #[.int .i64 p.at_, sv p.link.term, sv p.link.next, sv p.link.posts, .slice Ap np cp, .slice Ad nd cd] 108
  have hb := (Below.refl w.heap.size w).alloc (Nat.le_refl _) (.cells #[.int .i64 p.at_, sv p.link.term, sv p.link.next, sv p.link.posts, .slice Ap np cp, .slice Ad nd cd] 108)
  obtain ⟨w1, hw1⟩ : ∃ W, w.alloc (.cells #[.int .i64 p.at_, sv p.link.term, sv p.link.next, sv p.link.posts, .slice Ap np cp, .slice Ad nd cd] 108) = W := ⟨_, rfl⟩
  rw [hw1] at h1 hb
  have HW1 := Lib.hid hw1
  have HR0 := Lib.hid h1
  have HB0 := Lib.hid hb
  have HS := Lib.hid hp
  have HL := Lib.hid hl
  clear hw1 h1 hb hp hl
  by_cases ht0 : 0 ≤ p.at_
  rotate_left
  · have HE := Lib.hid (show p.may = false by unfold Hd.Pf.may; simp [ht0])
    go_enter Tryd.func46, Tryd.ntmps46
    go_upto_region 1 with fail
    rw [HW1.out]
    have x0 := HR0.out.cellQ 0 _ rfl
    have x1 := HR0.out.cellQ 1 _ rfl
    have x2 := HR0.out.cellQ 2 _ rfl
    have x3 := HR0.out.cellQ 3 _ rfl
    have x4 := HR0.out.cellQ 4 _ rfl
    have x5 := HR0.out.cellQ 5 _ rfl
    go_wp2
    go_ret
    rw [HE.out]
    exact ⟨rfl, HB0.out⟩
  by_cases ht1 : p.at_ ≤ 4611686018427387904
  rotate_left
  · have HE := Lib.hid (show p.may = false by unfold Hd.Pf.may; simp [ht0, ht1])
    go_enter Tryd.func46, Tryd.ntmps46
    go_upto_region 1 with fail
    rw [HW1.out]
    have x0 := HR0.out.cellQ 0 _ rfl
    have x1 := HR0.out.cellQ 1 _ rfl
    have x2 := HR0.out.cellQ 2 _ rfl
    have x3 := HR0.out.cellQ 3 _ rfl
    have x4 := HR0.out.cellQ 4 _ rfl
    have x5 := HR0.out.cellQ 5 _ rfl
    go_wp2
    go_ret
    rw [HE.out]
    exact ⟨rfl, HB0.out⟩
  by_cases ht2 : p.link.may = true
  rotate_left
  · have HE := Lib.hid (show p.may = false by unfold Hd.Pf.may; simp [ht0, ht1, ht2])
    have HT2 := Lib.hid (show p.link.may = false by simpa using ht2)
    clear ht2
    go_enter Tryd.func46, Tryd.ntmps46
    go_upto_region 1 with fail
    rw [HW1.out]
    have x0 := HR0.out.cellQ 0 _ rfl
    have x1 := HR0.out.cellQ 1 _ rfl
    have x2 := HR0.out.cellQ 2 _ rfl
    have x3 := HR0.out.cellQ 3 _ rfl
    have x4 := HR0.out.cellQ 4 _ rfl
    have x5 := HR0.out.cellQ 5 _ rfl
    have C := Lib.hid (rmay_any p.link w1)
    unfold RetB at C
    go_wp2_with fail
    (with_reducible refine C.out.mono ?_)
    rintro e w2 ⟨rfl, hb9⟩
    clear C
    rw [HT2.out]
    have HB1 := Lib.hid (bt HB0.out hb9)
    have HR1 := Lib.hid (HR0.out.belowS hb9 (Nat.le_refl _))
    clear hb9 x0 x1 x2 x3 x4 x5
    have x0 := HR1.out.cellQ 0 _ rfl
    have x1 := HR1.out.cellQ 1 _ rfl
    have x2 := HR1.out.cellQ 2 _ rfl
    have x3 := HR1.out.cellQ 3 _ rfl
    have x4 := HR1.out.cellQ 4 _ rfl
    have x5 := HR1.out.cellQ 5 _ rfl
    go_wp2
    go_ret
    rw [HE.out]
    exact ⟨rfl, HB1.out⟩
  have HT2 := Lib.hid ht2
  by_cases ht3 : Hd.pathsOk p.path = true
  rotate_left
  · have HE := Lib.hid (show p.may = false by unfold Hd.Pf.may; simp [ht0, ht1, ht2, ht3])
    have HT3 := Lib.hid (show Hd.pathsOk p.path = false by simpa using ht3)
    clear ht3 ht2
    go_enter Tryd.func46, Tryd.ntmps46
    go_upto_region 1 with fail
    rw [HW1.out]
    have x0 := HR0.out.cellQ 0 _ rfl
    have x1 := HR0.out.cellQ 1 _ rfl
    have x2 := HR0.out.cellQ 2 _ rfl
    have x3 := HR0.out.cellQ 3 _ rfl
    have x4 := HR0.out.cellQ 4 _ rfl
    have x5 := HR0.out.cellQ 5 _ rfl
    have C := Lib.hid (rmay_any p.link w1)
    unfold RetB at C
    go_wp2_with fail
    (with_reducible refine C.out.mono ?_)
    rintro e w2 ⟨rfl, hb9⟩
    clear C
    rw [HT2.out]
    have HB1 := Lib.hid (bt HB0.out hb9)
    have HR1 := Lib.hid (HR0.out.belowS hb9 (Nat.le_refl _))
    clear hb9 x0 x1 x2 x3 x4 x5
    have x0 := HR1.out.cellQ 0 _ rfl
    have x1 := HR1.out.cellQ 1 _ rfl
    have x2 := HR1.out.cellQ 2 _ rfl
    have x3 := HR1.out.cellQ 3 _ rfl
    have x4 := HR1.out.cellQ 4 _ rfl
    have x5 := HR1.out.cellQ 5 _ rfl
    have C := Lib.hid (paths_any Ap np cp p.path w2 (HS.out.keep HB1.out) (fun d hd => by have := HL.out d hd; rw [maxLen_eq]; omega))
    unfold RetV at C
    go_wp2_with fail
    (with_reducible refine C.out.mono ?_)
    rintro e w3 ⟨rfl, hb9⟩
    clear C
    rw [HT3.out]
    have HB2 := Lib.hid (bt HB1.out hb9)
    have HR2 := Lib.hid (HR1.out.belowS hb9 (Nat.le_refl _))
    clear hb9 x0 x1 x2 x3 x4 x5
    have x0 := HR2.out.cellQ 0 _ rfl
    have x1 := HR2.out.cellQ 1 _ rfl
    have x2 := HR2.out.cellQ 2 _ rfl
    have x3 := HR2.out.cellQ 3 _ rfl
    have x4 := HR2.out.cellQ 4 _ rfl
    have x5 := HR2.out.cellQ 5 _ rfl
    go_wp2
    go_ret
    rw [HE.out]
    exact ⟨rfl, HB2.out⟩
  have HT3 := Lib.hid ht3
  by_cases ht4 : p.docs.length ≤ 4000
  rotate_left
  · have HE := Lib.hid (show p.may = false by unfold Hd.Pf.may; simp [ht0, ht1, ht2, ht3, ht4])
    have ht4' : ¬ (nd : Int) ≤ 4000 := by omega
    clear ht3 ht2 ht4
    go_enter Tryd.func46, Tryd.ntmps46
    go_upto_region 1 with fail
    rw [HW1.out]
    have x0 := HR0.out.cellQ 0 _ rfl
    have x1 := HR0.out.cellQ 1 _ rfl
    have x2 := HR0.out.cellQ 2 _ rfl
    have x3 := HR0.out.cellQ 3 _ rfl
    have x4 := HR0.out.cellQ 4 _ rfl
    have x5 := HR0.out.cellQ 5 _ rfl
    have C := Lib.hid (rmay_any p.link w1)
    unfold RetB at C
    go_wp2_with fail
    (with_reducible refine C.out.mono ?_)
    rintro e w2 ⟨rfl, hb9⟩
    clear C
    rw [HT2.out]
    have HB1 := Lib.hid (bt HB0.out hb9)
    have HR1 := Lib.hid (HR0.out.belowS hb9 (Nat.le_refl _))
    clear hb9 x0 x1 x2 x3 x4 x5
    have x0 := HR1.out.cellQ 0 _ rfl
    have x1 := HR1.out.cellQ 1 _ rfl
    have x2 := HR1.out.cellQ 2 _ rfl
    have x3 := HR1.out.cellQ 3 _ rfl
    have x4 := HR1.out.cellQ 4 _ rfl
    have x5 := HR1.out.cellQ 5 _ rfl
    have C := Lib.hid (paths_any Ap np cp p.path w2 (HS.out.keep HB1.out) (fun d hd => by have := HL.out d hd; rw [maxLen_eq]; omega))
    unfold RetV at C
    go_wp2_with fail
    (with_reducible refine C.out.mono ?_)
    rintro e w3 ⟨rfl, hb9⟩
    clear C
    rw [HT3.out]
    have HB2 := Lib.hid (bt HB1.out hb9)
    have HR2 := Lib.hid (HR1.out.belowS hb9 (Nat.le_refl _))
    clear hb9 x0 x1 x2 x3 x4 x5
    have x0 := HR2.out.cellQ 0 _ rfl
    have x1 := HR2.out.cellQ 1 _ rfl
    have x2 := HR2.out.cellQ 2 _ rfl
    have x3 := HR2.out.cellQ 3 _ rfl
    have x4 := HR2.out.cellQ 4 _ rfl
    have x5 := HR2.out.cellQ 5 _ rfl
    go_wp2
    go_ret
    rw [HE.out]
    exact ⟨by simp [ht4'], HB2.out⟩
  have ht4' : (nd : Int) ≤ 4000 := by omega
  have HE := Lib.hid (show p.may = true by unfold Hd.Pf.may; simp [ht0, ht1, ht2, ht3, ht4])
  clear ht3 ht2 ht4
  go_enter Tryd.func46, Tryd.ntmps46
  go_upto_region 1 with fail
  rw [HW1.out]
  have x0 := HR0.out.cellQ 0 _ rfl
  have x1 := HR0.out.cellQ 1 _ rfl
  have x2 := HR0.out.cellQ 2 _ rfl
  have x3 := HR0.out.cellQ 3 _ rfl
  have x4 := HR0.out.cellQ 4 _ rfl
  have x5 := HR0.out.cellQ 5 _ rfl
  have C := Lib.hid (rmay_any p.link w1)
  unfold RetB at C
  go_wp2_with fail
  (with_reducible refine C.out.mono ?_)
  rintro e w2 ⟨rfl, hb9⟩
  clear C
  rw [HT2.out]
  have HB1 := Lib.hid (bt HB0.out hb9)
  have HR1 := Lib.hid (HR0.out.belowS hb9 (Nat.le_refl _))
  clear hb9 x0 x1 x2 x3 x4 x5
  have x0 := HR1.out.cellQ 0 _ rfl
  have x1 := HR1.out.cellQ 1 _ rfl
  have x2 := HR1.out.cellQ 2 _ rfl
  have x3 := HR1.out.cellQ 3 _ rfl
  have x4 := HR1.out.cellQ 4 _ rfl
  have x5 := HR1.out.cellQ 5 _ rfl
  have C := Lib.hid (paths_any Ap np cp p.path w2 (HS.out.keep HB1.out) (fun d hd => by have := HL.out d hd; rw [maxLen_eq]; omega))
  unfold RetV at C
  go_wp2_with fail
  (with_reducible refine C.out.mono ?_)
  rintro e w3 ⟨rfl, hb9⟩
  clear C
  rw [HT3.out]
  have HB2 := Lib.hid (bt HB1.out hb9)
  have HR2 := Lib.hid (HR1.out.belowS hb9 (Nat.le_refl _))
  clear hb9 x0 x1 x2 x3 x4 x5
  have x0 := HR2.out.cellQ 0 _ rfl
  have x1 := HR2.out.cellQ 1 _ rfl
  have x2 := HR2.out.cellQ 2 _ rfl
  have x3 := HR2.out.cellQ 3 _ rfl
  have x4 := HR2.out.cellQ 4 _ rfl
  have x5 := HR2.out.cellQ 5 _ rfl
  go_wp2
  go_ret
  rw [HE.out]
  exact ⟨rfl, HB2.out⟩
set_option maxRecDepth 100000 in
set_option maxHeartbeats 8000000 in
theorem pfB_any (Ap : Option Addr) (np cp : Nat) (Ad : Option Addr) (nd cd : Nat) (p : Hd.Pf) (w : World) (hp : Ss w Ap np cp p.path) (hd : Bs w Ad nd cd p.docs) (hm : p.may = true) (hpl : ∀ d ∈ p.path, d.length ≤ 1000) : Calls Tryd.prog 51 #[.agg #[.int .i64 p.at_, sv p.link.term, sv p.link.next, sv p.link.posts, .slice Ap np cp, .slice Ad nd cd]] w (Ret8 w.heap.size p.bytes w) := by
  have h1 := row_new w #[.int .i64 p.at_, sv p.link.term, sv p.link.next, sv p.link.posts, .slice Ap np cp, .slice Ad nd cd] 108
  have hb := (Below.refl w.heap.size w).alloc (Nat.le_refl _) (.cells #[.int .i64 p.at_, sv p.link.term, sv p.link.next, sv p.link.posts, .slice Ap np cp, .slice Ad nd cd] 108)
  obtain ⟨w1, hw1⟩ : ∃ W, w.alloc (.cells #[.int .i64 p.at_, sv p.link.term, sv p.link.next, sv p.link.posts, .slice Ap np cp, .slice Ad nd cd] 108) = W := ⟨_, rfl⟩
  rw [hw1] at h1 hb
  have HW1 := Lib.hid hw1
  have HR0 := Lib.hid h1
  have HB0 := Lib.hid hb
  have HS := Lib.hid hp
  have HD := Lib.hid hd
  have HL := Lib.hid hpl
  have hln := hp.len
  have HM := Lib.hid hm
  obtain ⟨hm1, hm2, hm3, hm4⟩ := Hd.Pf.may_iff.1 hm
  have hkb := Hd.Lk.bytes_le hm2
  obtain ⟨hk1', hk2', hk3'⟩ := Hd.Lk.may_iff.1 hm2
  have hk1 : p.link.term.length ≤ 10000 := by omega
  have hk2 : p.link.next.length ≤ 10000 := by omega
  have hk3 : p.link.posts.length ≤ 10000 := by omega
  have hn64 : np ≤ 64 := by unfold Hd.pathsOk at hm3; rw [Bool.and_eq_true] at hm3; have := of_decide_eq_true hm3.1; omega
  have CN := Lib.hid (fun W => (show Calls Tryd.prog 50 #[.int .i64 p.at_] W (Ret8 W.heap.size (Code.num p.at_.toNat) W) from by have := rnum_any p.at_.toNat p.at_.toNat W (Nat.le_refl _) (by omega); rw [Int.toNat_of_nonneg hm1.1] at this; exact this))
  have hb0 := Code.num_len9 p.at_.toNat (by omega)
  have hb1 := text_len p.link.bytes (by omega)
  have hb2 : (Hd.pathB p.path).length ≤ 64009 := by
    unfold Hd.pathB
    have h1 := Code.num_len9 p.path.length (by omega)
    have h2 := flatten_le p.path 1000 hpl
    rw [List.length_append]
    omega
  have hb3 := text_len p.docs (by omega)
  clear hw1 h1 hb hp hd hpl hm hm2 hm3 hk1' hk2' hk3'
  go_enter Tryd.func51, Tryd.ntmps51
  go_upto_region 1 with fail
  rw [HW1.out]
  refine Free.wp_free_l 8 (fun W => Row W w.heap.size #[.int .i64 p.at_, sv p.link.term, sv p.link.next, sv p.link.posts, .slice Ap np cp, .slice Ad nd cd] 108 ∧ Below w.heap.size w W) [Free.kc (.pointer (some ⟨w.heap.size, 0, none⟩)), Free.kc (.int .i64 p.at_), Free.x8b (w.heap.size) ((Code.num p.at_.toNat)), Free.kc (.pointer (some ⟨w.heap.size, 1, none⟩)), Free.kc (.agg #[sv p.link.term, sv p.link.next, sv p.link.posts]), Free.x8b (w.heap.size) (p.link.bytes), Free.kc (sv p.link.bytes), Free.x8b (w.heap.size) ((Code.text p.link.bytes))] (by kernel_rfl) (by kernel_rfl) (by decide) ⟨HR0.out.drew, HB0.out.trans (bel_drew _ _)⟩ (fun W W' h g => ⟨h.1.belowS g (Nat.le_refl _), bt h.2 g⟩) ?_ ?_
  · refine Free.forall_succ (Free.forall_succ (Free.forall_succ (Free.forall_succ (Free.forall_succ (Free.forall_succ (Free.forall_succ (Free.forall_succ (Free.forall_zero) ?_) ?_) ?_) ?_) ?_) ?_) ?_) ?_
    · exact Free.ob_plain _ rfl rfl fun vals wq hC hd => (by exact d_field (cx := .pointer (some ⟨w.heap.size, 0, none⟩)) rfl (by kernel_rfl) (by go_simp) rfl)
    · exact Free.ob_plain _ rfl rfl fun vals wq hC hd => (by exact Free.d_load (cx := .pointer (some ⟨w.heap.size, 0, none⟩)) rfl (Eq.trans (b := vals 0) (by kernel_rfl) (hd 0 (by kernel_rfl))) (by have hcc := hC.1.cellQ 0 _ rfl; go_simp) rfl)
    · exact Free.ob_plain _ rfl rfl fun vals wq hC hd => (by exact Free.d_call Tryd.func50 rfl rfl rfl rfl (Free.arg1 (Eq.trans (b := vals 1) (by kernel_rfl) (hd 1 (by kernel_rfl)))) ((CN.out wq).mono fun e w2 ⟨a, b, c, he, ho, hb⟩ => ⟨_, he, ⟨a, b, c, rfl, ho.base hC.2.size⟩, hb⟩))
    · exact Free.ob_plain _ rfl rfl fun vals wq hC hd => (by exact d_field (cx := .pointer (some ⟨w.heap.size, 0, none⟩)) rfl (by kernel_rfl) (by go_simp) rfl)
    · exact Free.ob_plain _ rfl rfl fun vals wq hC hd => (by exact Free.d_load (cx := .pointer (some ⟨w.heap.size, 1, none⟩)) rfl (Eq.trans (b := vals 3) (by kernel_rfl) (hd 3 (by kernel_rfl))) (by have a1 := hC.1.cellQ 1 _ rfl; have a2 := hC.1.cellQ 2 _ rfl; have a3 := hC.1.cellQ 3 _ rfl; go_simp) rfl)
    · exact Free.ob_plain _ rfl rfl fun vals wq hC hd => (by exact Free.d_call Tryd.func97 rfl rfl rfl rfl (Free.arg1 (Eq.trans (b := vals 4) (by kernel_rfl) (hd 4 (by kernel_rfl)))) ((rwlink_any p.link wq hk1 hk2 hk3).mono fun e w2 ⟨a, b, c, he, ho, hb⟩ => ⟨_, he, ⟨a, b, c, rfl, ho.base hC.2.size⟩, hb⟩))
    · exact Free.ob_plain _ rfl rfl fun vals wq hC hd => (by obtain ⟨A5, n5, k5, e5, ow5⟩ := hd 5 (by kernel_rfl); exact Free.d_conv rfl (Eq.trans (b := vals 5) (by kernel_rfl) e5) (run_str (P := Tryd.prog) 30 9 5 Tryd.underlying30 Tryd.underlying5 Tryd.underlying9 A5 _ k5 _ p.link.bytes ow5.bs.rd ow5.bs.len) (Below.refl _ _) rfl)
    · exact Free.ob_plain _ rfl rfl fun vals wq hC hd => (by exact Free.d_call Tryd.func65 rfl rfl rfl rfl (Free.arg1 (Eq.trans (b := vals 6) (by kernel_rfl) (hd 6 (by kernel_rfl)))) ((rtext_any p.link.bytes wq (by omega)).mono fun e w2 ⟨a, b, c, he, ho, hb⟩ => ⟨_, he, ⟨a, b, c, rfl, ho.base hC.2.size⟩, hb⟩))
  · intro vals wq hC hd
    have e0 : vals 0 = (.pointer (some ⟨w.heap.size, 0, none⟩)) := hd 0 (by decide)
    have e1 : vals 1 = (.int .i64 p.at_) := hd 1 (by decide)
    obtain ⟨A2, n2, k2, e2, ow2⟩ := hd 2 (by decide)
    have e3 : vals 3 = (.pointer (some ⟨w.heap.size, 1, none⟩)) := hd 3 (by decide)
    have e4 : vals 4 = (.agg #[sv p.link.term, sv p.link.next, sv p.link.posts]) := hd 4 (by decide)
    obtain ⟨A5, n5, k5, e5, ow5⟩ := hd 5 (by decide)
    have e6 : vals 6 = (sv p.link.bytes) := hd 6 (by decide)
    obtain ⟨A7, n7, k7, e7, ow7⟩ := hd 7 (by decide)
    simp only [Free.frameOf, List.range, List.range.loop, List.foldl, Free.dstOf, List.getElem?_toArray, List.getElem?_cons_zero, List.getElem?_cons_succ, Option.bind_some, Act.put, List.setIfInBounds_toArray, List.set_cons_zero, List.set_cons_succ, e0, e1, e2, e3, e4, e5, e6, e7]
    clear hd e0 e1 e2 e3 e4 e5 e6 e7
    have HO2 := Lib.hid ow2
    have HO7 := Lib.hid ow7
    have HR1 := Lib.hid hC.1
    have HB1 := Lib.hid hC.2
    have hl2 := ow2.len
    have hl7 := ow7.len
    have hBB := hC.2.size
    clear ow2 ow5 ow7 hC
    refine wl_app8 rfl (.tmp 6) (.tmp 11) rfl rfl HO2.out rfl HO7.out.bs (by omega) hBB ?_
    intro A9 n9 c9 w2 ho9 hb9 hg9
    have HO3 := Lib.hid ho9
    have hl3 := ho9.len
    rw [List.length_append] at hl3
    have HB2 := Lib.hid (HB1.out.trans hb9)
    have HR2 := Lib.hid (HR1.out.keepTy (by decide) (KeepTy.grown (S := [5]) HO2.out.own (by decide) hg9 hb9.size))
    clear ho9 hb9 hg9 hBB
    have x2 := HR2.out.cellQ 4 _ rfl
    have C := Lib.hid (pathB_any Ap np cp p.path w2 (HS.out.keep HB2.out) (by omega) HL.out)
    unfold Ret8 at C
    go_wp2_with fail
    (with_reducible refine C.out.mono ?_)
    rintro e w3 ⟨A5', n5', c5', rfl, ho, hb⟩
    have HP5 := Lib.hid ho
    have HX5 := Lib.hid (HO3.out.keep hb)
    have HS5 := Lib.hid (HR2.out.belowS hb (Nat.le_refl _))
    have HC5 := Lib.hid (bt HB2.out hb)
    have hl5 := ho.len
    have hBB := HC5.out.size
    clear ho hb C x2
    go_upto_region 3 with (at_builtin; refine wl_app8 rfl (.tmp 13) (.tmp 16) rfl rfl HX5.out rfl HP5.out.bs (by omega) hBB ?_; intro A9 n9 c9 w4 ho9 hb9 hg9; have HO4 := Lib.hid ho9; have HB4 := Lib.hid (HC5.out.trans hb9); have HR4 := Lib.hid (HS5.out.keepTy (by decide) (KeepTy.grown (S := [5]) HX5.out.own (by decide) hg9 hb9.size)); clear ho9 hb9 hg9 hBB)
    have hl4 := HO4.out.len
    rw [List.length_append, List.length_append] at hl4
    have x5 := HR4.out.cellQ 5 _ rfl
    have C := Lib.hid (rtext_any p.docs w4 (by omega))
    unfold Ret8 at C
    go_wp2_with (refine wl_str rfl 30 9 (.tmp 20) rfl 5 Tryd.underlying30 Tryd.underlying5 Tryd.underlying9 Ad nd cd rfl _ p.docs (HD.out.keep HB4.out).rd (HD.out.keep HB4.out).len ?_)
    (with_reducible refine C.out.mono ?_)
    rintro e w5 ⟨A7', n7', c7', rfl, ho, hb⟩
    have HP7 := Lib.hid ho
    have HX7 := Lib.hid (HO4.out.keep hb)
    have HC7 := Lib.hid (bt HB4.out hb)
    have hl7' := ho.len
    have hBB := HC7.out.size
    clear ho hb C x5
    go_wp2_with (at_builtin; refine wl_app8 rfl (.tmp 18) (.tmp 22) rfl rfl HX7.out rfl HP7.out.bs (by omega) hBB ?_; intro A9 n9 c9 w6 ho9 hb9 hg9; have HO8 := Lib.hid ho9; have HB8 := Lib.hid (HC7.out.trans hb9); clear ho9 hb9 hg9 hBB)
    go_ret
    exact ⟨_, _, _, rfl, HO8.out, HB8.out⟩
end Go.Proofs.YtfgpaepdlmnhaaaDoor
