/- Answers as the document's. No statement of the seat is proved here. -/
import Derived.Test.YtfgpaepdlmnhaaaDoorReplyW
namespace Go.Proofs.YtfgpaepdlmnhaaaDoor
set_option maxRecDepth 100000
set_option linter.unusedVariables false
open Go.RowKit
theorem pf11T : ElemT Tryd.prog 104 108 6 104 := ElemT.mk' (z := .agg #[.int .i64 0, .string ByteArray.empty, .string ByteArray.empty, .string ByteArray.empty, .slice none 0 0, .slice none 0 0]) Tryd.underlying104 (by kernel_rfl) rfl (by omega)
theorem rw11T : ElemT Tryd.prog 38 104 1 24 := ElemT.mk' (z := .slice none 0 0) Tryd.underlying38 (by kernel_rfl) rfl (by omega)
/-- A row of the document's proofs that is the call's own. -/
abbrev OwnRf (W : World) (b : Nat) (r : RwD) : Prop := OwnQ pfc 6 108 W b r.a r.n r.c r.l
/-- What stands in the turning of an answer. -/
structure AaC (w W : World) (c1 : Array Value) (g3 : Nat) (cs : Array Value) (Ah : Option Addr) (nh ch : Nat) (hs : List Hd.Sg) (Ar : Option Addr) (nr cr : Nat) (LL : List RwD) : Prop where
  r1 : Row W w.heap.size c1 27
  r2 : Row W (w.heap.size + 1) #[.int .i64 0, .string { data := #[] }, .slice none 0 0, .slice none 0 0] 40
  r3 : Row W g3 cs 40
  bel : Below w.heap.size w W
  g30 : w.heap.size ≤ g3
  ne : w.heap.size + 1 ≠ g3
  hq : OwnR W w.heap.size Ah nh ch hs
  rows : ∀ r ∈ LL, OwnRf W w.heap.size r
  own : OwnQ rwc 1 104 W w.heap.size Ar nr cr LL
section
variable {w W W' : World} {c1 : Array Value} {g3 : Nat} {cs : Array Value} {Ah : Option Addr} {nh ch : Nat} {hs : List Hd.Sg} {Ar : Option Addr} {nr cr : Nat} {LL : List RwD}
theorem AaC.keep (h : AaC w W c1 g3 cs Ah nh ch hs Ar nr cr LL) (hb : Below W.heap.size W W') : AaC w W' c1 g3 cs Ah nh ch hs Ar nr cr LL :=
  ⟨h.r1.belowS hb (Nat.le_refl _), h.r2.belowS hb (Nat.le_refl _), h.r3.belowS hb (Nat.le_refl _), bt h.bel hb, h.g30, h.ne, h.hq.keep hb, fun r hm => (h.rows r hm).keep hb, h.own.keep hb⟩
theorem AaC.grown {A2 : Option Addr} {c2 : Nat} {r : RwD} (h : AaC w W c1 g3 cs Ah nh ch hs Ar nr cr LL) (hr : OwnRf W w.heap.size r) (ho : OwnQ rwc 1 104 W' w.heap.size A2 (nr + 1) c2 (LL ++ [r])) (hg : W.grownBy W' (Value.slice Ar nr cr).ownBlock) (hb : Below w.heap.size W W') : AaC w W' c1 g3 cs Ah nh ch hs A2 (nr + 1) c2 (LL ++ [r]) := by
  have k := KeepTy.grown (S := [104]) h.own.own (by decide) hg hb.size
  refine ⟨h.r1.keepTy (by decide) k, h.r2.keepTy (by decide) k, h.r3.keepTy (by decide) k, h.bel.trans hb, h.g30, h.ne, h.hq.keepTy (by decide) k, fun r' hm => ?_, ho⟩
  rcases List.mem_append.1 hm with hm | hm
  · exact (h.rows r' hm).keepTy (by decide) k
  · rw [List.mem_singleton.1 hm]; exact hr.keepTy (by decide) k
theorem AaC.setA (h : AaC w W c1 g3 cs Ah nh ch hs Ar nr cr LL) (j : Nat) (v : Value) : AaC w (W.setCell ⟨g3, j, none⟩ v) c1 g3 (cs.setIfInBounds j v) Ah nh ch hs Ar nr cr LL := by
  have k := KeepTy.set (S := [40]) h.r3 (by decide) j v
  exact ⟨h.r1.keepTy (by decide) k, h.r2.far g3 j v h.ne, h.r3.set j v, h.bel.setCell (p := ⟨g3, j, none⟩) h.g30 v, h.g30, h.ne, h.hq.keepTy (by decide) k, fun r hm => (h.rows r hm).keepTy (by decide) k, h.own.keepTy (by decide) k⟩
end
def AsPost_ans (a : Hd.An) (w : World) (e : Ending) (w' : World) : Prop := ∃ Ah nh ch Ar nr cr LL, e = .returned (.agg #[.int .i64 a.h.size, sv a.h.log, .slice Ah nh ch, .slice Ar nr cr]) ∧ InAn w' a Ah nh ch Ar nr cr LL ∧ Below w.heap.size w w'
set_option maxRecDepth 100000 in
set_option maxHeartbeats 32000000 in
theorem as_ans {As : Option Addr} {ns cs : Nat} {A : Option Addr} {n c : Nat} (a : Hd.An) (L : List RwD) (w : World) (hm : InAn w a As ns cs A n c L) (hn : n ≤ 1000) (hns : ns ≤ 1000) (hrow : ∀ l ∈ a.rows, l.length ≤ 1000) : Calls Tryd.prog 12 #[.agg #[.int .i64 a.h.size, sv a.h.log, .slice As ns cs, .slice A n c]] w (AsPost_ans a w) := by
  have hln := hm.r.q.len
  have hcp := hm.r.q.cap
  have hmx := hm.r.q.max
  rw [maxLen_eq] at hmx
  have h1 := (row_new w #[.int .i64 a.h.size, sv a.h.log, .slice As ns cs, .slice A n c] 27).alloc (.cells #[.int .i64 0, .string { data := #[] }, .slice none 0 0, .slice none 0 0] 40)
  have h2 := row_new (w.alloc (.cells #[.int .i64 a.h.size, sv a.h.log, .slice As ns cs, .slice A n c] 27)) #[.int .i64 0, .string { data := #[] }, .slice none 0 0, .slice none 0 0] 40
  rw [size_alloc] at h2
  have hb := ((Below.refl w.heap.size w).alloc (Nat.le_refl _) (.cells #[.int .i64 a.h.size, sv a.h.log, .slice As ns cs, .slice A n c] 27)).alloc (by rw [size_alloc]; omega) (.cells #[.int .i64 0, .string { data := #[] }, .slice none 0 0, .slice none 0 0] 40)
  obtain ⟨w1, hw1⟩ : ∃ W, (w.alloc (.cells #[.int .i64 a.h.size, sv a.h.log, .slice As ns cs, .slice A n c] 27)).alloc (.cells #[.int .i64 0, .string { data := #[] }, .slice none 0 0, .slice none 0 0] 40) = W := ⟨_, rfl⟩
  rw [hw1] at h1 h2 hb
  have HW1 := Lib.hid hw1
  have HR1 := Lib.hid h1
  have HR2 := Lib.hid h2
  have HB0 := Lib.hid hb
  have HM := Lib.hid hm
  have HRL := Lib.hid hrow
  have C := Lib.hid (asHead_any As ns cs a.h w1 (hm.s.keep hb) hns)
  unfold AsHPost at C
  clear hw1 h1 h2 hb hm hrow
  go_enter Tryd.func12, Tryd.ntmps12
  go_upto_region 1 with fail
  rw [HW1.out]
  have x0 := HR1.out.cellQ 0 _ rfl
  have x1 := HR1.out.cellQ 1 _ rfl
  have x2 := HR1.out.cellQ 2 _ rfl
  go_wp2_with fail
  (with_reducible refine C.out.mono ?_)
  rintro e w3 ⟨Ah, nh, ch, rfl, hq, hb9⟩
  have HQ := Lib.hid (hq.base HB0.out.size)
  have HB3 := Lib.hid (bt HB0.out hb9)
  have HR13 := Lib.hid (HR1.out.belowS hb9 (Nat.le_refl _))
  have HR23 := Lib.hid (HR2.out.belowS hb9 (Nat.le_refl _))
  clear hq hb9 C x0 x1 x2 HR1 HR2 HW1
  unfold hdv
  go_upto_region 2 with fail
  have hb4 := (Below.refl w3.heap.size w3).alloc (Nat.le_refl _) (.cells #[.int .i64 a.h.size, sv a.h.log, .slice Ah nh ch, .slice none 0 0] 40)
  have hr4 := row_new w3 #[.int .i64 a.h.size, sv a.h.log, .slice Ah nh ch, .slice none 0 0] 40
  obtain ⟨w4, hw4⟩ : ∃ W, w3.alloc (.cells #[.int .i64 a.h.size, sv a.h.log, .slice Ah nh ch, .slice none 0 0] 40) = W := ⟨_, rfl⟩
  rw [hw4] at hb4 hr4 ⊢
  have hlt := HR23.out.lt
  have HC0 := Lib.hid (show AaC w w4 #[.int .i64 a.h.size, sv a.h.log, .slice As ns cs, .slice A n c] w3.heap.size #[.int .i64 a.h.size, sv a.h.log, .slice Ah nh ch, .slice none 0 0] Ah nh ch a.h.segs none 0 0 [] from ⟨HR13.out.belowS hb4 (Nat.le_refl _), HR23.out.belowS hb4 (Nat.le_refl _), hr4, bt HB3.out hb4, by omega, by omega, HQ.out.keep hb4, by simp, OwnQ.nil _ _⟩)
  clear hw4 hb4 hr4 HR13 HR23 HB3 HQ
  obtain ⟨ga, hga⟩ : ∃ g, w3.heap.size = g := ⟨_, rfl⟩
  rw [hga] at HC0 ⊢
  clear hga hlt
  go_wp2
  go_loopw [4] (fun vi wr => ∃ (k : Nat) (Ar : Option Addr) (cr : Nat) (LL : List RwD), vi = .int .i64 (k : Int) ∧ k ≤ n ∧ Hid (AaC w wr #[.int .i64 a.h.size, sv a.h.log, .slice As ns cs, .slice A n c] ga #[.int .i64 a.h.size, sv a.h.log, .slice Ah nh ch, .slice Ar k cr] Ah nh ch a.h.segs Ar k cr LL ∧ LL.map RwD.l = (L.take k).map RwD.l)) (fun vi _ => n - (intOf vi).toNat)
  case atStart => exact ⟨0, none, 0, [], rfl, by omega, Lib.hid ⟨HC0.out, rfl⟩⟩
  case round =>
    obtain ⟨k, Ar, cr, LL, rfl, hk, HI⟩ := hrel
    obtain ⟨wo, hwo⟩ : ∃ W, W = wr := ⟨wr, rfl⟩
    subst hwo
    have x3 := HI.out.1.r1.cellQ 3 _ rfl
    by_cases hlt : k < n
    · obtain ⟨b, off, r, rfl, hbk, hrk, hcells⟩ := HM.out.r.q.at rwc_len (by omega) hlt
      have HCL := Lib.hid hcells
      have HRK := Lib.hid hrk
      have HRI := Lib.hid (HM.out.r.i r (List.mem_of_getElem? hrk))
      have HPM := Lib.hid (show r.ps ∈ a.rows by rw [← HM.out.e]; exact List.mem_map.2 ⟨r, List.mem_of_getElem? hrk, rfl⟩)
      have hpl : r.ps.length = r.n := by unfold RwD.ps; rw [List.length_map, HRI.out.q.len]
      have hrl : r.l.length = r.n := HRI.out.q.len
      have hrcap := HRI.out.q.cap
      have hrmax := HRI.out.q.max
      rw [maxLen_eq] at hrmax
      have y0 := hcells wo HI.out.1.bel 0 _ rfl
      rw [Nat.mul_one, Nat.add_zero] at y0
      clear hcells hrk
      have HTK := Lib.hid (show (L.take (k + 1)).map RwD.l = (L.take k).map RwD.l ++ [r.l] by rw [List.take_add_one, HRK.out]; simp)
      have hr1000 : r.n ≤ 1000 := by have := HRL.out r.ps HPM.out; omega
      have hwr := HI.out.1.bel.size
      clear y0
      go_wp2
      clear x3
      go_loopw [5, 6] (fun vl vj wr => ∃ (j : Nat) (A' : Option Addr) (c' : Nat), vl = .slice A' j c' ∧ vj = .int .i64 (j : Int) ∧ j ≤ r.n ∧ Hid (Below wo.heap.size wo wr ∧ OwnQ pfc 6 108 wr wo.heap.size A' j c' (r.l.take j))) (fun _ vj _ => r.n - (intOf vj).toNat)
      case atStart => exact ⟨0, none, 0, rfl, rfl, by omega, Lib.hid ⟨Below.refl _ _, OwnQ.nil _ _⟩⟩
      case round =>
        obtain ⟨j, A', c', rfl, rfl, hj, HJ⟩ := hrel
        have HBY := Lib.hid (bt HI.out.1.bel HJ.out.1)
        have x3 := (HI.out.1.r1.belowS HJ.out.1 (Nat.le_refl _)).cellQ 3 _ rfl
        have y0 := HCL.out wr HBY.out 0 _ rfl
        rw [Nat.mul_one, Nat.add_zero] at y0
        by_cases hltj : j < r.n
        · obtain ⟨b2, off2, d, hra, hbk2, hdj, hc2⟩ := HRI.out.q.at pfc_len (by omega) hltj
          have q0 := hc2 wr HBY.out 0 _ rfl
          rw [Nat.add_zero] at q0
          have q1 := hc2 wr HBY.out 1 _ rfl
          have q2 := hc2 wr HBY.out 2 _ rfl
          have q3 := hc2 wr HBY.out 3 _ rfl
          have q4 := hc2 wr HBY.out 4 _ rfl
          have q5 := hc2 wr HBY.out 5 _ rfl
          have HDJ := Lib.hid hdj
          have HPD := Lib.hid (HRI.out.i d (List.mem_of_getElem? hdj))
          have HDP := Lib.hid (show d.p ∈ r.ps from List.mem_map.2 ⟨d, List.mem_of_getElem? hdj, rfl⟩)
          rw [hra] at y0
          clear hc2 hdj hra
          have HTJ := Lib.hid (show r.l.take (j + 1) = r.l.take j ++ [d] by rw [List.take_add_one, HDJ.out]; rfl)
          have CP := Lib.hid (asProof_any d.ap d.np d.cp d.ad d.nd d.cd d.p wr)
          unfold RetV at CP
          go_wp2_with fail
          (with_reducible refine CP.out.mono ?_)
          rintro e w5 ⟨rfl, hb⟩
          have HJ5 := Lib.hid (And.intro (bt HJ.out.1 hb) (HJ.out.2.keep hb))
          have hsz5 := HJ5.out.1.size
          clear hb CP x3 y0 q0 q1 q2 q3 q4 q5
          go_wp2_with (at_builtin; refine wl_appQ1k pfc_len pf11T (by omega) pfc_one rfl (.tmp 28) (.tmp 38) rfl rfl HJ5.out.2 rfl d rfl (by omega) hsz5 ?_; intro A6 c6 w6 ho6 hg6 hb6; have HJ6 := Lib.hid (And.intro (HJ5.out.1.trans (((Below.refl w5.heap.size w5).alloc (Nat.le_refl _) (.cells #[.int .i64 d.p.at_, sv d.p.link.term, sv d.p.link.next, sv d.p.link.posts, .slice d.ap d.np d.cp, .slice d.ad d.nd d.cd] 108) |>.mono HJ5.out.1.size).trans hb6)) ho6); clear ho6 hg6 hb6)
          go_roundw
          case rel => exact ⟨j + 1, A6, c6, rfl, by go_num, by omega, Lib.hid ⟨HJ6.out.1, by rw [HTJ.out]; exact HJ6.out.2⟩⟩
          case measure => simp [intOf]; omega
        · obtain rfl : j = r.n := by omega
          have HL := Lib.hid (show r.l.take r.n = r.l by rw [← hrl, List.take_length])
          have HA := Lib.hid (HI.out.1.keep HJ.out.1)
          have HRW := Lib.hid (show OwnRf wr w.heap.size ⟨A', r.n, c', r.l⟩ from by have h := HJ.out.2; rw [HL.out] at h; exact h.base hwr)
          have hwr := HBY.out.size
          go_upto_region 10 with fail
          clear x3 y0
          have x3 := HA.out.r3.cellQ 3 _ rfl
          go_upto_region 4 with (at_builtin; refine wl_appQ1k rwc_len rw11T (by omega) rwc_one rfl (.tmp 41) (.tmp 43) rfl rfl HA.out.own rfl ⟨A', r.n, c', r.l⟩ rfl (by omega) hwr ?_; intro A7 c7 w7 ho7 hg7 hb7; have HA7 := Lib.hid (show AaC w w7 #[.int .i64 a.h.size, sv a.h.log, .slice As ns cs, .slice (some ⟨b, off, none⟩) n c] ga #[.int .i64 a.h.size, sv a.h.log, .slice Ah nh ch, .slice Ar k cr] Ah nh ch a.h.segs A7 (k + 1) c7 (LL ++ [⟨A', r.n, c', r.l⟩]) from by
              have hba := (Below.refl wr.heap.size wr).alloc (Nat.le_refl _) (.cells #[.slice A' r.n c'] 104)
              exact (HA.out.keep hba).grown (HRW.out.keep hba) ho7 hg7 hb7); clear ho7 hg7 hb7 x3; have x3 := HA7.out.r3.cellQ 3 _ rfl; have y3 := HA7.out.r3.frozen 3)
          generalize hwd : World.setCell w7 _ _ = w8
          have HA8 := Lib.hid (show AaC w w8 #[.int .i64 a.h.size, sv a.h.log, .slice As ns cs, .slice (some ⟨b, off, none⟩) n c] ga #[.int .i64 a.h.size, sv a.h.log, .slice Ah nh ch, .slice A7 (k + 1) c7] Ah nh ch a.h.segs A7 (k + 1) c7 (LL ++ [⟨A', r.n, c', r.l⟩]) by rw [← hwd]; exact HA7.out.setA 3 _)
          clear hwd x3 y3 HA HA7
          go_wp2
          go_roundw
          case rel => exact ⟨k + 1, A7, c7, _, by go_num, by omega, Lib.hid ⟨HA8.out, by rw [HTK.out, List.map_append, HI.out.2]; rfl⟩⟩
          case measure => simp [intOf]; omega
    · obtain rfl : k = n := by omega
      have HF := Lib.hid HI.out.1
      have HLE := Lib.hid (show LL.map RwD.l = L.map RwD.l by have h := HI.out.2; rw [← hln, List.take_length] at h; exact h)
      go_upto_region 11 with fail
      clear x3
      have z0 := HF.out.r2.cellQ 0 _ rfl
      have u0 := HF.out.r2.frozen 0
      have z1 := HF.out.r2.cellQ 1 _ rfl
      have u1 := HF.out.r2.frozen 1
      have z2 := HF.out.r2.cellQ 2 _ rfl
      have u2 := HF.out.r2.frozen 2
      have z3 := HF.out.r2.cellQ 3 _ rfl
      have u3 := HF.out.r2.frozen 3
      have q0 := HF.out.r3.cellQ 0 _ rfl
      have q1 := HF.out.r3.cellQ 1 _ rfl
      have q2 := HF.out.r3.cellQ 2 _ rfl
      have q3 := HF.out.r3.cellQ 3 _ rfl
      go_wp2
      generalize hwf : World.setCell (World.setCell (World.setCell (World.setCell _ _ _) _ _) _ _) _ _ = wf
      have hsf : setFrom (w.heap.size + 1) wo 0 [.int .i64 a.h.size, sv a.h.log, .slice Ah nh ch, .slice Ar k cr] = wf := by rw [← hwf]; rfl
      have hrow := HF.out.r2.all [.int .i64 a.h.size, sv a.h.log, .slice Ah nh ch, .slice Ar k cr] rfl
      rw [hsf] at hrow
      have r0 := hrow.cellQ 0 _ rfl
      have r1 := hrow.cellQ 1 _ rfl
      have r2 := hrow.cellQ 2 _ rfl
      have r3 := hrow.cellQ 3 _ rfl
      refine bodyPost_ret (v := .agg #[.int .i64 a.h.size, sv a.h.log, .slice Ah nh ch, .slice Ar k cr]) (by simp [results, Tryd.results12, go_sem, r0, r1, r2, r3]) rfl ?_
      have hbel : Below w.heap.size w wf := by rw [← hsf]; exact below_setFrom (by omega) _ 0 HF.out.bel
      have k9 := KeepTy.setF (S := [40]) (by decide) [.int .i64 a.h.size, sv a.h.log, .slice Ah nh ch, .slice Ar k cr] 0 HF.out.r2
      rw [hsf] at k9
      refine ⟨Ah, nh, ch, Ar, k, cr, LL, rfl, ⟨(HF.out.hq.keepTy (by decide) k9).sq, ⟨(HF.out.own.keepTy (by decide) k9).sq, fun r hr => ⟨((HF.out.rows r hr).keepTy (by decide) k9).sq, fun d hd => ?_⟩⟩, ?_⟩, hbel⟩
      · have hl : r.l ∈ L.map RwD.l := by rw [← HLE.out]; exact List.mem_map.2 ⟨r, hr, rfl⟩
        obtain ⟨r', hr', he⟩ := List.mem_map.1 hl
        exact ((HM.out.r.i r' hr').i d (by rw [he]; exact hd)).keep hbel
      · rw [← HM.out.e]
        have h := congrArg (List.map (List.map PfD.p)) HLE.out
        rw [List.map_map, List.map_map] at h
        exact h
end Go.Proofs.YtfgpaepdlmnhaaaDoor
