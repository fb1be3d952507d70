/- Answers that are alike. No statement of the seat is proved here. -/
import Derived.Test.YtfgpaepdlmnhaaaDoorReplyX
namespace Go.Proofs.YtfgpaepdlmnhaaaDoor
set_option maxRecDepth 100000
set_option linter.unusedVariables false
open Go.RowKit
set_option maxRecDepth 100000 in
set_option maxHeartbeats 32000000 in
theorem same18_ans {As : Option Addr} {ns cs : Nat} {A : Option Addr} {n c : Nat} {Bq : Option Addr} {ks : Nat} {B : Option Addr} {k0 : Nat} (a : Hd.An) (L M : List RwD) (w : World) (hm : InAn w a As ns cs A n c L) (hq : InAn w a Bq ns ks B n k0 M) : Calls Tryd.prog 15 #[.agg #[.int .i64 a.h.size, sv a.h.log, .slice As ns cs, .slice A n c], .agg #[.int .i64 a.h.size, sv a.h.log, .slice Bq ns ks, .slice B n k0]] w (RetB true w) := by
  have hln := hm.r.q.len
  have hcp := hm.r.q.cap
  have hmx := hm.r.q.max
  have hln2 := hq.r.q.len
  have hcp2 := hq.r.q.cap
  have hmx2 := hq.r.q.max
  rw [maxLen_eq] at hmx hmx2
  have h1 := (row_new w #[.int .i64 a.h.size, sv a.h.log, .slice As ns cs, .slice A n c] 40).alloc (.cells #[.int .i64 a.h.size, sv a.h.log, .slice Bq ns ks, .slice B n k0] 40)
  have h2 := row_new (w.alloc (.cells #[.int .i64 a.h.size, sv a.h.log, .slice As ns cs, .slice A n c] 40)) #[.int .i64 a.h.size, sv a.h.log, .slice Bq ns ks, .slice B n k0] 40
  rw [size_alloc] at h2
  have hb := ((Below.refl w.heap.size w).alloc (Nat.le_refl _) (.cells #[.int .i64 a.h.size, sv a.h.log, .slice As ns cs, .slice A n c] 40)).alloc (by rw [size_alloc]; omega) (.cells #[.int .i64 a.h.size, sv a.h.log, .slice Bq ns ks, .slice B n k0] 40)
  obtain ⟨w1, hw1⟩ : ∃ W, (w.alloc (.cells #[.int .i64 a.h.size, sv a.h.log, .slice As ns cs, .slice A n c] 40)).alloc (.cells #[.int .i64 a.h.size, sv a.h.log, .slice Bq ns ks, .slice B n k0] 40) = W := ⟨_, rfl⟩
  rw [hw1] at h1 h2 hb
  have HW1 := Lib.hid hw1
  have HB := Lib.hid hb
  have HM := Lib.hid hm
  have HQ := Lib.hid hq
  have x0 := h1.cellQ 0 _ rfl
  have x1 := h1.cellQ 1 _ rfl
  have x2 := h1.cellQ 2 _ rfl
  have y0 := h2.cellQ 0 _ rfl
  have y1 := h2.cellQ 1 _ rfl
  have y2 := h2.cellQ 2 _ rfl
  have HX := Lib.hid (show ∀ W, Below w1.heap.size w1 W → W.cell? ⟨w.heap.size, 3, none⟩ = some (.slice A n c) from fun W hW => (h1.belowS hW (Nat.le_refl _)).cellQ 3 _ rfl)
  have HY := Lib.hid (show ∀ W, Below w1.heap.size w1 W → W.cell? ⟨w.heap.size + 1, 3, none⟩ = some (.slice B n k0) from fun W hW => (h2.belowS hW (Nat.le_refl _)).cellQ 3 _ rfl)
  have C := Lib.hid (same15_eq As ns cs Bq ks a.h w1 (hm.s.keep hb) (hq.s.keep hb))
  unfold RetB at C
  clear h1 h2 hb hw1 hm hq
  go_enter Tryd.func15, Tryd.ntmps15
  go_upto_region 1 with fail
  rw [HW1.out]
  go_wp2_with fail
  (with_reducible refine C.out.mono ?_)
  rintro e w2 ⟨rfl, hb2⟩
  have HB2 := Lib.hid hb2
  clear C x0 x1 x2 y0 y1 y2
  have x3 := HX.out w2 hb2
  have y3 := HY.out w2 hb2
  clear hb2
  go_wp2
  clear x3 y3
  go_loopw [5] (fun vi wr => ∃ (k : Nat), vi = .int .i64 (k : Int) ∧ k ≤ n ∧ Hid (Below w1.heap.size w1 wr)) (fun vi _ => n - (intOf vi).toNat)
  case atStart => exact ⟨0, rfl, by omega, HB2⟩
  case round =>
    obtain ⟨k, rfl, hk, HI⟩ := hrel
    obtain ⟨wo, hwo⟩ : ∃ W, W = wr := ⟨wr, rfl⟩
    subst hwo
    have x3 := HX.out wo HI.out
    have y3 := HY.out wo HI.out
    by_cases hlt : k < n
    · obtain ⟨b, off, r, rfl, hbk, hrk, hcells⟩ := HM.out.r.q.at rwc_len (by omega) hlt
      obtain ⟨b', off', r', rfl, hbk', hrk', hcells'⟩ := HQ.out.r.q.at rwc_len (by omega) hlt
      have HRI := Lib.hid (HM.out.r.i r (List.mem_of_getElem? hrk))
      have HRI' := Lib.hid (HQ.out.r.i r' (List.mem_of_getElem? hrk'))
      have HPS := Lib.hid (show r'.ps = r.ps by
        have h : (M.map RwD.ps)[k]? = (L.map RwD.ps)[k]? := by rw [HM.out.e, HQ.out.e]
        rw [List.getElem?_map, List.getElem?_map, hrk, hrk'] at h
        injection h)
      have HNN := Lib.hid (show r'.n = r.n by
        have h := congrArg List.length HPS.out
        unfold RwD.ps at h
        rw [List.length_map, List.length_map, HRI.out.q.len, HRI'.out.q.len] at h
        exact h)
      have HCL := Lib.hid (show ∀ W, Below w.heap.size w W → W.cell? ⟨b, off + k * 1, none⟩ = some (.slice r.a r.n r.c) from fun W hW => by have h := hcells W hW 0 _ rfl; rw [Nat.add_zero] at h; exact h)
      have HCL' := Lib.hid (show ∀ W, Below w.heap.size w W → W.cell? ⟨b', off' + k * 1, none⟩ = some (.slice r'.a r.n r'.c) from fun W hW => by have h := hcells' W hW 0 _ rfl; rw [Nat.add_zero] at h; rw [h, HNN.out])
      have hrcap := HRI.out.q.cap
      have hrmax := HRI.out.q.max
      rw [maxLen_eq] at hrmax
      have hrcap' := HRI'.out.q.cap
      have hrmax' := HRI'.out.q.max
      rw [maxLen_eq] at hrmax'
      rw [HNN.out] at hrcap'
      have z0 := HCL.out wo (bt HB.out HI.out)
      rw [Nat.mul_one] at z0
      have z1 := HCL'.out wo (bt HB.out HI.out)
      rw [Nat.mul_one] at z1
      clear hcells hcells' hrk hrk'
      go_wp2_with fail
      go_quiet (fail)
      go_wp2
      clear x3 y3 z0 z1
      go_loopw [6] (fun vj wr => ∃ (j : Nat), vj = .int .i64 (j : Int) ∧ j ≤ r.n ∧ Hid (Below w1.heap.size w1 wr)) (fun vj _ => r.n - (intOf vj).toNat)
      case atStart => exact ⟨0, rfl, by omega, Lib.hid (HI.out.trans (bel_drewN _ _ _))⟩
      case round =>
        obtain ⟨j, rfl, hj, HBJ⟩ := hrel
        have x3 := HX.out wr HBJ.out
        have z0 := HCL.out wr (bt HB.out HBJ.out)
        rw [Nat.mul_one] at z0
        by_cases hltj : j < r.n
        · obtain ⟨b2, off2, d, hra, hbk2, hdj, hc2⟩ := HRI.out.q.at pfc_len (by omega) hltj
          obtain ⟨b2', off2', d', hra', hbk2', hdj', hc2'⟩ := HRI'.out.q.at pfc_len (by omega) (by rw [HNN.out]; exact hltj)
          have HPD := Lib.hid (HRI.out.i d (List.mem_of_getElem? hdj))
          have HPD' := Lib.hid (HRI'.out.i d' (List.mem_of_getElem? hdj'))
          have HDP := Lib.hid (show d'.p = d.p by
            have h : r'.ps[j]? = r.ps[j]? := by rw [HPS.out]
            unfold RwD.ps at h
            rw [List.getElem?_map, List.getElem?_map, hdj, hdj'] at h
            injection h)
          have HNP := Lib.hid (show d'.np = d.np by rw [← HPD.out.s.len, ← HPD'.out.s.len, HDP.out])
          have HND := Lib.hid (show d'.nd = d.nd by rw [← HPD.out.b.len, ← HPD'.out.b.len, HDP.out])
          have HPE := Lib.hid (show Ss w d'.ap d.np d'.cp d.p.path ∧ Bs w d'.ad d.nd d'.cd d.p.docs by
            have h1 := HPD'.out.s
            have h2 := HPD'.out.b
            rw [HNP.out, HDP.out] at h1
            rw [HND.out, HDP.out] at h2
            exact ⟨h1, h2⟩)
          have HDC := Lib.hid hc2
          have HDC' := Lib.hid (show ∀ W, Below w.heap.size w W → ∀ i v, (pfc ⟨d.p, d'.ap, d.np, d'.cp, d'.ad, d.nd, d'.cd⟩)[i]? = some v → W.cell? ⟨b2', off2' + j * 6 + i, none⟩ = some v from fun W hW i v hv => hc2' W hW i v (by unfold pfc; rw [HDP.out, HNP.out, HND.out]; exact hv))
          have HCL := Lib.hid (show ∀ W, Below w.heap.size w W → W.cell? ⟨b, off + k * 1, none⟩ = some (.slice (some ⟨b2, off2, none⟩) r.n r.c) from fun W hW => by rw [HCL.out W hW, hra])
          have HCL' := Lib.hid (show ∀ W, Below w.heap.size w W → W.cell? ⟨b', off' + k * 1, none⟩ = some (.slice (some ⟨b2', off2', none⟩) r.n r'.c) from fun W hW => by rw [HCL'.out W hW, hra'])
          clear hc2 hc2' hdj hdj' hra hra'
          go_upto_region 11 with fail
          clear x3 z0
          refine Free.wp_free_l 18 (fun W => Below w1.heap.size w1 W) [Free.kc (.pointer (some ⟨w.heap.size, 3, none⟩)), Free.kc (.slice (some ⟨b, off, none⟩) n c), Free.kc (.int .i64 (k : Int)), Free.kc (.pointer (some ⟨b, off + k * 1, none⟩)), Free.kc (.slice (some ⟨b2, off2, none⟩) r.n r.c), Free.kc (.int .i64 (j : Int)), Free.kc (.pointer (some ⟨b2, off2 + j * 6, none⟩)), Free.kc (.agg #[.int .i64 d.p.at_, sv d.p.link.term, sv d.p.link.next, sv d.p.link.posts, .slice d.ap d.np d.cp, .slice d.ad d.nd d.cd]), Free.kc (.pointer (some ⟨(w.heap.size + 1), 3, none⟩)), Free.kc (.slice (some ⟨b', off', none⟩) n k0), Free.kc (.int .i64 (k : Int)), Free.kc (.pointer (some ⟨b', off' + k * 1, none⟩)), Free.kc (.slice (some ⟨b2', off2', none⟩) r.n r'.c), Free.kc (.int .i64 (j : Int)), Free.kc (.pointer (some ⟨b2', off2' + j * 6, none⟩)), Free.kc (.agg #[.int .i64 d.p.at_, sv d.p.link.term, sv d.p.link.next, sv d.p.link.posts, .slice d'.ap d.np d'.cp, .slice d'.ad d.nd d'.cd]), Free.kc (.bool true), Free.kc (.bool false)] (by kernel_rfl) (by kernel_rfl) (by decide) (bt HBJ.out (bel_drew _ _)) (fun W W' h g => bt h g) ?_ ?_
          · refine Free.forall_succ (Free.forall_succ (Free.forall_succ (Free.forall_succ (Free.forall_succ (Free.forall_succ (Free.forall_succ (Free.forall_succ (Free.forall_succ (Free.forall_succ (Free.forall_succ (Free.forall_succ (Free.forall_succ (Free.forall_succ (Free.forall_succ (Free.forall_succ (Free.forall_succ (Free.forall_succ (Free.forall_zero) ?_) ?_) ?_) ?_) ?_) ?_) ?_) ?_) ?_) ?_) ?_) ?_) ?_) ?_) ?_) ?_) ?_) ?_
            · exact Free.ob_plain _ rfl rfl fun vals wq hC hd => (by exact d_field (cx := .pointer (some ⟨w.heap.size, 0, none⟩)) rfl (by kernel_rfl) (by go_simp) rfl)
            · exact Free.ob_plain _ rfl rfl fun vals wq hC hd => (by exact Free.d_load (cx := .pointer (some ⟨w.heap.size, 3, none⟩)) rfl (Eq.trans (b := vals 0) (by kernel_rfl) (hd 0 (by kernel_rfl))) (by have hcc := HX.out wq hC; go_simp) rfl)
            · exact Free.ob_plain _ rfl rfl fun vals wq hC hd => (by exact Free.d_move rfl (by kernel_rfl) rfl)
            · exact Free.ob_plain _ rfl rfl fun vals wq hC hd => (by exact Free.d_indexAddr rfl (Eq.trans (b := vals 1) (by kernel_rfl) (hd 1 (by kernel_rfl))) (Eq.trans (b := vals 2) (by kernel_rfl) (hd 2 (by kernel_rfl))) (run_idxK 38 Tryd.underlying38 (by kernel_rfl) b off n c k _ rfl hlt) rfl)
            · exact Free.ob_plain _ rfl rfl fun vals wq hC hd => (by exact Free.d_load (cx := .pointer (some ⟨b, off + k * 1, none⟩)) rfl (Eq.trans (b := vals 3) (by kernel_rfl) (hd 3 (by kernel_rfl))) (by have s0 := HCL.out wq (bt HB.out hC); rw [Nat.mul_one] at s0; go_simp) rfl)
            · exact Free.ob_plain _ rfl rfl fun vals wq hC hd => (by exact Free.d_move rfl (by kernel_rfl) rfl)
            · exact Free.ob_plain _ rfl rfl fun vals wq hC hd => (by exact Free.d_indexAddr rfl (Eq.trans (b := vals 4) (by kernel_rfl) (hd 4 (by kernel_rfl))) (Eq.trans (b := vals 5) (by kernel_rfl) (hd 5 (by kernel_rfl))) (run_idxK 104 Tryd.underlying104 (by kernel_rfl) b2 off2 r.n r.c j _ rfl hltj) rfl)
            · exact Free.ob_plain _ rfl rfl fun vals wq hC hd => (by exact Free.d_load (cx := .pointer (some ⟨b2, off2 + j * 6, none⟩)) rfl (Eq.trans (b := vals 6) (by kernel_rfl) (hd 6 (by kernel_rfl))) (by have s0 := HDC.out wq (bt HB.out hC) 0 _ rfl; have s1 := HDC.out wq (bt HB.out hC) 1 _ rfl; have s2 := HDC.out wq (bt HB.out hC) 2 _ rfl; have s3 := HDC.out wq (bt HB.out hC) 3 _ rfl; have s4 := HDC.out wq (bt HB.out hC) 4 _ rfl; have s5 := HDC.out wq (bt HB.out hC) 5 _ rfl; rw [Nat.add_zero] at s0; go_simp) rfl)
            · exact Free.ob_plain _ rfl rfl fun vals wq hC hd => (by exact d_field (cx := .pointer (some ⟨(w.heap.size + 1), 0, none⟩)) rfl (by kernel_rfl) (by go_simp) rfl)
            · exact Free.ob_plain _ rfl rfl fun vals wq hC hd => (by exact Free.d_load (cx := .pointer (some ⟨(w.heap.size + 1), 3, none⟩)) rfl (Eq.trans (b := vals 8) (by kernel_rfl) (hd 8 (by kernel_rfl))) (by have hcc := HY.out wq hC; go_simp) rfl)
            · exact Free.ob_plain _ rfl rfl fun vals wq hC hd => (by exact Free.d_move rfl (by kernel_rfl) rfl)
            · exact Free.ob_plain _ rfl rfl fun vals wq hC hd => (by exact Free.d_indexAddr rfl (Eq.trans (b := vals 9) (by kernel_rfl) (hd 9 (by kernel_rfl))) (Eq.trans (b := vals 10) (by kernel_rfl) (hd 10 (by kernel_rfl))) (run_idxK 38 Tryd.underlying38 (by kernel_rfl) b' off' n k0 k _ rfl hlt) rfl)
            · exact Free.ob_plain _ rfl rfl fun vals wq hC hd => (by exact Free.d_load (cx := .pointer (some ⟨b', off' + k * 1, none⟩)) rfl (Eq.trans (b := vals 11) (by kernel_rfl) (hd 11 (by kernel_rfl))) (by have s0 := HCL'.out wq (bt HB.out hC); rw [Nat.mul_one] at s0; go_simp) rfl)
            · exact Free.ob_plain _ rfl rfl fun vals wq hC hd => (by exact Free.d_move rfl (by kernel_rfl) rfl)
            · exact Free.ob_plain _ rfl rfl fun vals wq hC hd => (by exact Free.d_indexAddr rfl (Eq.trans (b := vals 12) (by kernel_rfl) (hd 12 (by kernel_rfl))) (Eq.trans (b := vals 13) (by kernel_rfl) (hd 13 (by kernel_rfl))) (run_idxK 104 Tryd.underlying104 (by kernel_rfl) b2' off2' r.n r'.c j _ rfl hltj) rfl)
            · exact Free.ob_plain _ rfl rfl fun vals wq hC hd => (by exact Free.d_load (cx := .pointer (some ⟨b2', off2' + j * 6, none⟩)) rfl (Eq.trans (b := vals 14) (by kernel_rfl) (hd 14 (by kernel_rfl))) (by have s0 := HDC'.out wq (bt HB.out hC) 0 _ rfl; have s1 := HDC'.out wq (bt HB.out hC) 1 _ rfl; have s2 := HDC'.out wq (bt HB.out hC) 2 _ rfl; have s3 := HDC'.out wq (bt HB.out hC) 3 _ rfl; have s4 := HDC'.out wq (bt HB.out hC) 4 _ rfl; have s5 := HDC'.out wq (bt HB.out hC) 5 _ rfl; rw [Nat.add_zero] at s0; go_simp) rfl)
            · exact Free.ob_plain _ rfl rfl fun vals wq hC hd => (by exact Free.d_call Tryd.func58 rfl rfl rfl rfl (Free.arg2 (Eq.trans (b := vals 7) (by kernel_rfl) (hd 7 (by kernel_rfl))) (Eq.trans (b := vals 15) (by kernel_rfl) (hd 15 (by kernel_rfl)))) ((same11_eq d.ap d.np d.cp d.ad d.nd d.cd d'.ap d'.cp d'.ad d'.cd d.p wq (HPD.out.s.keep (bt HB.out hC)) (HPD.out.b.keep (bt HB.out hC)) (HPE.out.1.keep (bt HB.out hC)) (HPE.out.2.keep (bt HB.out hC))).mono fun e w2 ⟨he, hb⟩ => ⟨_, he, rfl, hb⟩))
            · exact Free.ob_plain _ rfl rfl fun vals wq hC hd => (by exact Free.d_un rfl (Eq.trans (b := vals 16) (by kernel_rfl) (hd 16 (by kernel_rfl))) (by go_simp) rfl)
          · intro vals wq hC hd
            have e0 : vals 0 = (.pointer (some ⟨w.heap.size, 3, none⟩)) := hd 0 (by decide)
            have e1 : vals 1 = (.slice (some ⟨b, off, none⟩) n c) := hd 1 (by decide)
            have e2 : vals 2 = (.int .i64 (k : Int)) := hd 2 (by decide)
            have e3 : vals 3 = (.pointer (some ⟨b, off + k * 1, none⟩)) := hd 3 (by decide)
            have e4 : vals 4 = (.slice (some ⟨b2, off2, none⟩) r.n r.c) := hd 4 (by decide)
            have e5 : vals 5 = (.int .i64 (j : Int)) := hd 5 (by decide)
            have e6 : vals 6 = (.pointer (some ⟨b2, off2 + j * 6, none⟩)) := hd 6 (by decide)
            have e7 : vals 7 = (.agg #[.int .i64 d.p.at_, sv d.p.link.term, sv d.p.link.next, sv d.p.link.posts, .slice d.ap d.np d.cp, .slice d.ad d.nd d.cd]) := hd 7 (by decide)
            have e8 : vals 8 = (.pointer (some ⟨(w.heap.size + 1), 3, none⟩)) := hd 8 (by decide)
            have e9 : vals 9 = (.slice (some ⟨b', off', none⟩) n k0) := hd 9 (by decide)
            have e10 : vals 10 = (.int .i64 (k : Int)) := hd 10 (by decide)
            have e11 : vals 11 = (.pointer (some ⟨b', off' + k * 1, none⟩)) := hd 11 (by decide)
            have e12 : vals 12 = (.slice (some ⟨b2', off2', none⟩) r.n r'.c) := hd 12 (by decide)
            have e13 : vals 13 = (.int .i64 (j : Int)) := hd 13 (by decide)
            have e14 : vals 14 = (.pointer (some ⟨b2', off2' + j * 6, none⟩)) := hd 14 (by decide)
            have e15 : vals 15 = (.agg #[.int .i64 d.p.at_, sv d.p.link.term, sv d.p.link.next, sv d.p.link.posts, .slice d'.ap d.np d'.cp, .slice d'.ad d.nd d'.cd]) := hd 15 (by decide)
            have e16 : vals 16 = (.bool true) := hd 16 (by decide)
            have e17 : vals 17 = (.bool false) := hd 17 (by decide)
            simp only [Free.frameOf, List.range, List.range.loop, List.foldl, Free.dstOf, List.getElem?_toArray, List.getElem?_cons_zero, List.getElem?_cons_succ, Option.bind_some, Act.put, List.setIfInBounds_toArray, List.set_cons_zero, List.set_cons_succ, e0, e1, e2, e3, e4, e5, e6, e7, e8, e9, e10, e11, e12, e13, e14, e15, e16, e17]
            refine wpList_nil ?_
            clear hd e0 e1 e2 e3 e4 e5 e6 e7 e8 e9 e10 e11 e12 e13 e14 e15 e16 e17
            have HBN := Lib.hid hC
            clear hC
            go_wp2
            go_roundw
            case rel => exact ⟨j + 1, by go_num, by omega, HBN⟩
            case measure => simp [intOf]; omega
        · obtain rfl : j = r.n := by omega
          go_wp2
          go_roundw
          case rel => exact ⟨k + 1, by go_num, by omega, HBJ⟩
          case measure => simp [intOf]; omega
    · obtain rfl : k = n := by omega
      have HF := Lib.hid (bt HB.out HI.out)
      go_wp2
      go_ret
      exact ⟨rfl, HF.out⟩
end Go.Proofs.YtfgpaepdlmnhaaaDoor
