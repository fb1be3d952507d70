/- MClashC: several texts of this claim in one file. No statement of the seat is proved here. -/
import Derived.Test.YtlcdpbpbfofmmaaDoorMClashB
namespace Go.Proofs.YtlcdpbpbfofmmaaDoor
set_option maxRecDepth 100000
set_option linter.unusedVariables false
open Go.RowKit
theorem leafBytes8 (A : Option Addr) (n c : Nat) (l : List UInt8) (w : World) (h : Bs w A n c l) (hn : n ≤ 1000000) :
    Calls Tryd.prog 40 #[.slice A n c] w (Ret8 w.heap.size (0 :: l) w) := by
  exact (leafBytes_any A n c l w h.rd h.len h.cap h.max hn).mono fun e w2 h => h.ret8
/-- The boxes of two's arguments. -/
structure Box5 (w w5 : World) (va vb vx vy : Value) : Prop where
  eq : ((((w.alloc (.cells #[va] 22)).alloc (.cells #[vb] 22)).alloc (.cells #[vx] 24)).alloc (.cells #[vy] 24)).alloc (.cells #[.slice none 0 0, .slice none 0 0] 29) = w5
  bel : Below w.heap.size w w5
  size : w5.heap.size = w.heap.size + 5
  a : Row w5 w.heap.size #[va] 22
  b : Row w5 (w.heap.size + 1) #[vb] 22
  x : Row w5 (w.heap.size + 1 + 1) #[vx] 24
  y : Row w5 (w.heap.size + 1 + 1 + 1) #[vy] 24
  res : Row w5 (w.heap.size + 1 + 1 + 1 + 1) #[.slice none 0 0, .slice none 0 0] 29
theorem alloc_size (w : World) (o : Obj) : (w.alloc o).heap.size = w.heap.size + 1 := by unfold World.alloc; simp
theorem box5 (w : World) (va vb vx vy : Value) : ∃ w5, Box5 w w5 va vb vx vy := by
  refine ⟨_, rfl, ?_, ?_, ?_, ?_, ?_, ?_, ?_⟩
  · exact (((((Below.refl _ w).alloc (Nat.le_refl _) _).alloc (by simp only [alloc_size]; omega) _).alloc (by simp only [alloc_size]; omega) _).alloc (by simp only [alloc_size]; omega) _).alloc (by simp only [alloc_size]; omega) _
  · simp
  · exact ((((row_new w #[va] 22).alloc _).alloc _).alloc _).alloc _
  · have h := row_new (w.alloc (.cells #[va] 22)) #[vb] 22
    rw [alloc_size] at h
    exact ((h.alloc _).alloc _).alloc _
  · have h := row_new ((w.alloc (.cells #[va] 22)).alloc (.cells #[vb] 22)) #[vx] 24
    rw [alloc_size, alloc_size] at h
    exact (h.alloc _).alloc _
  · have h := row_new (((w.alloc (.cells #[va] 22)).alloc (.cells #[vb] 22)).alloc (.cells #[vx] 24)) #[vy] 24
    rw [alloc_size, alloc_size, alloc_size] at h
    exact h.alloc _
  · have h := row_new ((((w.alloc (.cells #[va] 22)).alloc (.cells #[vb] 22)).alloc (.cells #[vx] 24)).alloc (.cells #[vy] 24)) #[.slice none 0 0, .slice none 0 0] 29
    rw [alloc_size, alloc_size, alloc_size, alloc_size] at h
    exact h
set_option maxHeartbeats 16000000 in
theorem two1_any (Aa : Option Addr) (ca : Nat) (f : Nat → Piece) (Ab : Option Addr) (cb : Nat) (g : Nat → Piece) (A2 : Option Addr) (n2 c2 : Nat) (A3 : Option Addr) (n3 c3 : Nat) (w : World) (hra : RowsAt w Aa 1 f) (hca : 1 ≤ ca) (hma : ca ≤ maxLen) (hrb : RowsAt w Ab 1 g) (hcb : 1 ≤ cb) (hmb : cb ≤ maxLen)
    (hsf : (f 0).n ≤ 1000) (hsg : (g 0).n ≤ 1000) (ht : Tabs w) :
    Calls Tryd.prog 58 #[.slice Aa 1 ca, .slice Ab 1 cb, .slice A2 n2 c2, .slice A3 n3 c3] w (ResPost w.heap.size (Cl.btw (0 :: (f 0).l) (0 :: (g 0).l)) w) := by
  rw [maxLen_eq] at hma hmb
  obtain ⟨li, hli⟩ : ∃ q, f 0 = q := ⟨_, rfl⟩
  obtain ⟨lj, hlj⟩ : ∃ q, g 0 = q := ⟨_, rfl⟩
  rw [hli] at hsf ⊢
  rw [hlj] at hsg ⊢
  obtain ⟨ga, oa, rfl, hga, hcell⟩ := hra (by omega)
  have hpa := (hcell 0 (by omega)).2
  have hxa := (hcell 0 (by omega)).1
  rw [hli] at hpa hxa
  obtain ⟨gb, ob, rfl, hgb, hcell2⟩ := hrb (by omega)
  have hpb := (hcell2 0 (by omega)).2
  have hxb := (hcell2 0 (by omega)).1
  rw [hlj] at hpb hxb
  clear hcell hcell2 hra hrb hli hlj
  obtain ⟨w5, bx⟩ := box5 w (.slice (some ⟨ga, oa, none⟩) 1 ca) (.slice (some ⟨gb, ob, none⟩) 1 cb) (.slice A2 n2 c2) (.slice A3 n3 c3)
  have HB5 := Lib.hid bx.bel
  have HW5 := Lib.hid bx.eq
  have HSZ := Lib.hid bx.size
  have HROW0 := Lib.hid bx.res
  have HLA := Lib.hid (show ∀ W, Below w5.heap.size w5 W → W.cell? ⟨w.heap.size, 0, none⟩ = some (.slice (some ⟨ga, oa, none⟩) 1 ca) from fun W hW => (hW.cell (p := ⟨w.heap.size, 0, none⟩) bx.a.lt).trans (bx.a.cellQ 0 _ rfl))
  have HLB := Lib.hid (show ∀ W, Below w5.heap.size w5 W → W.cell? ⟨w.heap.size + 1, 0, none⟩ = some (.slice (some ⟨gb, ob, none⟩) 1 cb) from fun W hW => (hW.cell (p := ⟨w.heap.size + 1, 0, none⟩) bx.b.lt).trans (bx.b.cellQ 0 _ rfl))
  have HLC := Lib.hid (show ∀ W, Below w5.heap.size w5 W → W.cell? ⟨ga, oa, none⟩ = some (.slice li.a li.n li.c) from fun W hW => ((bt bx.bel hW).cell (p := ⟨ga, oa, none⟩) hga).trans hxa)
  have HLD := Lib.hid (show ∀ W, Below w5.heap.size w5 W → W.cell? ⟨gb, ob, none⟩ = some (.slice lj.a lj.n lj.c) from fun W hW => ((bt bx.bel hW).cell (p := ⟨gb, ob, none⟩) hgb).trans hxb)
  have HLN := Lib.hid (show (0 :: li.l).length ≤ 1000000 ∧ (0 :: lj.l).length ≤ 1000000 by rw [List.length_cons, List.length_cons, hpa.len, hpb.len]; omega)
  have QL1 := Lib.hid (show ∀ W, Below w5.heap.size w5 W → Calls Tryd.prog 40 #[.slice li.a li.n li.c] W (Ret8 W.heap.size (0 :: li.l) W) from fun W hW => leafBytes8 li.a li.n li.c li.l W (Bs.keep ⟨hpa.rd, hpa.len, hpa.cap, hpa.max⟩ (bt bx.bel hW)) (by omega))
  have QL2 := Lib.hid (show ∀ W, Below w5.heap.size w5 W → Calls Tryd.prog 40 #[.slice lj.a lj.n lj.c] W (Ret8 W.heap.size (0 :: lj.l) W) from fun W hW => leafBytes8 lj.a lj.n lj.c lj.l W (Bs.keep ⟨hpb.rd, hpb.len, hpb.cap, hpb.max⟩ (bt bx.bel hW)) (by omega))
  unfold Ret8 at QL1 QL2
  have HT := Lib.hid ht
  have y0 := HLA.out w5 (Below.refl _ _)
  clear hpa hpb hxa hxb bx hma hmb hsf hsg ht
  go_enter Tryd.func58, Tryd.ntmps58
  go_upto_region 1 with fail
  rw [HW5.out]
  go_wp2_with fail
  refine Free.wp_free_l 11 (fun W => Below w5.heap.size w5 W) [Free.kc (.slice (some ⟨ga, oa, none⟩) 1 ca), Free.kc (.pointer (some ⟨ga, oa, none⟩)), Free.kc (.slice li.a li.n li.c), Free.kB (w5.heap.size) (0 :: li.l), Free.kc (.slice (some ⟨gb, ob, none⟩) 1 cb), Free.kc (.pointer (some ⟨gb, ob, none⟩)), Free.kc (.slice lj.a lj.n lj.c), Free.kB (w5.heap.size) (0 :: lj.l), Free.kR (w5.heap.size) (Cl.btw (0 :: li.l) (0 :: lj.l)), Free.kG (w5.heap.size) (Cl.btw (0 :: li.l) (0 :: lj.l)), Free.kc (.bool (Cl.btw (0 :: li.l) (0 :: lj.l)).isSome)] (by kernel_rfl) (by kernel_rfl) (by decide) (Below.refl _ _).drew (fun w w' h g => bt h g) ?_ ?_
  · refine Free.forall_succ (Free.forall_succ (Free.forall_succ (Free.forall_succ (Free.forall_succ (Free.forall_succ (Free.forall_succ (Free.forall_succ (Free.forall_succ (Free.forall_succ (Free.forall_succ (Free.forall_zero) ?_) ?_) ?_) ?_) ?_) ?_) ?_) ?_) ?_) ?_) ?_
    · exact Free.ob_plain _ rfl rfl fun vals wq hC hd => (by exact Free.d_load rfl (show _ = (Value.pointer (some ⟨w.heap.size, 0, none⟩)) from by kernel_rfl) (by have hcc := HLA.out wq hC; go_simp) rfl)
    · exact Free.ob_plain _ rfl rfl fun vals wq hC hd => (by exact Free.d_indexAddr rfl (Eq.trans (b := vals 0) (by kernel_rfl) (hd 0 (by kernel_rfl))) (show _ = (Value.int .i64 0) from rfl) (run_idx 22 Tryd.underlying22 (by kernel_rfl) ga oa 1 ca 0 _ (by omega) (by omega)) rfl)
    · exact Free.ob_plain _ rfl rfl fun vals wq hC hd => (by exact Free.d_load rfl (Eq.trans (b := vals 1) (by kernel_rfl) (hd 1 (by kernel_rfl))) (by have hcc := HLC.out wq hC; go_simp) rfl)
    · exact Free.ob_plain _ rfl rfl fun vals wq hC hd => (by exact Free.d_call Tryd.func40 (by kernel_rfl) (by kernel_rfl) rfl rfl (Free.arg1 (Eq.trans (b := vals 2) (by kernel_rfl) (hd 2 (by kernel_rfl)))) ((QL1.out wq hC).mono fun e w2 h => (by obtain ⟨A1, n1, c1, he, ho, hb⟩ := h; exact ⟨_, he, ⟨A1, n1, c1, rfl, ho.base hC.size⟩, hb⟩)))
    · exact Free.ob_plain _ rfl rfl fun vals wq hC hd => (by exact Free.d_load rfl (show _ = (Value.pointer (some ⟨w.heap.size + 1, 0, none⟩)) from by kernel_rfl) (by have hcc := HLB.out wq hC; go_simp) rfl)
    · exact Free.ob_plain _ rfl rfl fun vals wq hC hd => (by exact Free.d_indexAddr rfl (Eq.trans (b := vals 4) (by kernel_rfl) (hd 4 (by kernel_rfl))) (show _ = (Value.int .i64 0) from rfl) (run_idx 22 Tryd.underlying22 (by kernel_rfl) gb ob 1 cb 0 _ (by omega) (by omega)) rfl)
    · exact Free.ob_plain _ rfl rfl fun vals wq hC hd => (by exact Free.d_load rfl (Eq.trans (b := vals 5) (by kernel_rfl) (hd 5 (by kernel_rfl))) (by have hcc := HLD.out wq hC; go_simp) rfl)
    · exact Free.ob_plain _ rfl rfl fun vals wq hC hd => (by exact Free.d_call Tryd.func40 (by kernel_rfl) (by kernel_rfl) rfl rfl (Free.arg1 (Eq.trans (b := vals 6) (by kernel_rfl) (hd 6 (by kernel_rfl)))) ((QL2.out wq hC).mono fun e w2 h => (by obtain ⟨A1, n1, c1, he, ho, hb⟩ := h; exact ⟨_, he, ⟨A1, n1, c1, rfl, ho.base hC.size⟩, hb⟩)))
    · exact Free.ob_plain _ rfl rfl fun vals wq hC hd => (by obtain ⟨A3, n3, k3, e3, ow3⟩ := hd 3 (by kernel_rfl); obtain ⟨A7, n7, k7, e7, ow7⟩ := hd 7 (by kernel_rfl); exact Free.d_call Tryd.func59 (by kernel_rfl) (by kernel_rfl) rfl rfl (Free.arg2 (Eq.trans (b := vals 3) (by kernel_rfl) e3) (Eq.trans (b := vals 7) (by kernel_rfl) e7)) ((betw_any A3 n3 k3 A7 n7 k7 (0 :: li.l) (0 :: lj.l) wq ow3.bs (by rw [← ow3.bs.len]; exact HLN.out.1) ow7.bs (by rw [← ow7.bs.len]; exact HLN.out.2) (HT.out.below (bt HB5.out hC))).mono fun e w2 h => (by obtain ⟨A7, n7, c7, B7, m7, k7, he, h1, h2, hb⟩ := h; exact ⟨_, he, ⟨_, rfl, ⟨A7, n7, c7, B7, m7, k7, rfl, h1.base hC.size, h2.base hC.size⟩⟩, hb⟩)))
    · exact Free.ob_plain _ rfl rfl fun vals wq hC hd => (by obtain ⟨v8, e8, pd8⟩ := hd 8 (by kernel_rfl); exact (by obtain ⟨A7, n7, c7, B7, m7, k7, he7, h1, h2⟩ := pd8; exact Free.d_extract rfl (Eq.trans (Eq.trans (b := vals 8) (by kernel_rfl) e8) he7) (by first | rfl | (go_simp; done)) ⟨_, rfl, ⟨A7, n7, c7, B7, m7, k7, rfl, h1, h2⟩⟩))
    · exact Free.ob_plain _ rfl rfl fun vals wq hC hd => (by obtain ⟨v8, e8, pd8⟩ := hd 8 (by kernel_rfl); exact (by obtain ⟨A7, n7, c7, B7, m7, k7, he7, h1, h2⟩ := pd8; exact Free.d_extract rfl (Eq.trans (Eq.trans (b := vals 8) (by kernel_rfl) e8) he7) (by first | rfl | (go_simp; done)) rfl))
  · intro vals wq hC hd
    have e0 : vals 0 = (.slice (some ⟨ga, oa, none⟩) 1 ca) := hd 0 (by decide)
    have e1 : vals 1 = (.pointer (some ⟨ga, oa, none⟩)) := hd 1 (by decide)
    have e2 : vals 2 = (.slice li.a li.n li.c) := hd 2 (by decide)
    obtain ⟨A3, n3, k3, e3, ow3⟩ := hd 3 (by decide)
    have e4 : vals 4 = (.slice (some ⟨gb, ob, none⟩) 1 cb) := hd 4 (by decide)
    have e5 : vals 5 = (.pointer (some ⟨gb, ob, none⟩)) := hd 5 (by decide)
    have e6 : vals 6 = (.slice lj.a lj.n lj.c) := hd 6 (by decide)
    obtain ⟨A7, n7, k7, e7, ow7⟩ := hd 7 (by decide)
    obtain ⟨v8, e8, pd8⟩ := hd 8 (by decide)
    obtain ⟨v9, e9, pd9⟩ := hd 9 (by decide)
    have e10 : vals 10 = (.bool (Cl.btw (0 :: li.l) (0 :: lj.l)).isSome) := hd 10 (by decide)
    simp only [Free.frameOf, List.range, List.range.loop, List.foldl, Free.dstOf, List.getElem?_toArray, List.getElem?_cons_zero, List.getElem?_cons_succ, Option.bind_some, Act.put, List.setIfInBounds_toArray, List.set_cons_zero, List.set_cons_succ, e0, e1, e2, e3, e4, e5, e6, e7, e8, e9, e10]
    clear hd e0 e1 e2 e3 e4 e5 e6 e7 e8 e9 e10
    obtain ⟨A7, n7, c7, B7, m7, k7, rfl, hf1, hf2⟩ := pd9
    have HB4 := Lib.hid (bt HB5.out hC)
    have hres := Row.belowS HROW0.out hC (Nat.le_refl _)
    have x0 := hres.cellQ 0 _ rfl
    have x1 := hres.cellQ 1 _ rfl
    have f0 := hres.frozen 0
    have f1 := hres.frozen 1
    have HROW := Lib.hid (show ∀ u v, Row (setFrom (w.heap.size + 1 + 1 + 1 + 1) wq 0 [u, v]) (w.heap.size + 1 + 1 + 1 + 1) #[u, v] 29 from fun u v => hres.all [u, v] rfl)
    have HF := Lib.hid (And.intro hf1 hf2)
    have HLT := Lib.hid (show w.heap.size + 1 + 1 + 1 + 1 < w5.heap.size by rw [HSZ.out]; omega)
    have HL0 := Lib.hid (show w.heap.size ≤ w5.heap.size by rw [HSZ.out]; omega)
    clear hres hf1 hf2 hC ow3 ow7 pd8 y0
    go_wp2
    generalize hwd : World.setCell (World.setCell wq _ _) _ _ = wd
    have hsf : setFrom (w.heap.size + 1 + 1 + 1 + 1) wq 0 [.slice A7 n7 c7, .slice B7 m7 k7] = wd := by rw [← hwd]; rfl
    have r0 : wd.cell? ⟨w.heap.size + 1 + 1 + 1 + 1, 0, none⟩ = some (.slice A7 n7 c7) := by rw [← hsf]; exact (HROW.out _ _).cellQ 0 _ rfl
    have r1 : wd.cell? ⟨w.heap.size + 1 + 1 + 1 + 1, 1, none⟩ = some (.slice B7 m7 k7) := by rw [← hsf]; exact (HROW.out _ _).cellQ 1 _ rfl
    refine bodyPost_ret (v := .tuple #[.agg #[.slice A7 n7 c7, .slice B7 m7 k7], .bool (Cl.btw (0 :: li.l) (0 :: lj.l)).isSome]) (by simp [results, Tryd.results58, go_sem, r0, r1]) rfl ?_
    exact ⟨A7, n7, c7, B7, m7, k7, rfl, by rw [← hsf]; exact (HF.out.1.set HLT.out _ 0).base HL0.out, by rw [← hsf]; exact (HF.out.2.set HLT.out _ 0).base HL0.out, by rw [← hsf]; exact below_setFrom (by omega) _ 0 HB4.out⟩
end Go.Proofs.YtlcdpbpbfofmmaaDoor

namespace Go.Proofs.YtlcdpbpbfofmmaaDoor
set_option maxRecDepth 100000
set_option linter.unusedVariables false
open Go.RowKit
theorem arg4c {ρ : Operand → Value} {x y z u : Operand} {c d e f : Value} (h : ρ x = c) (h2 : ρ y = d) (h3 : ρ z = e) (h4 : ρ u = f) : (#[x, y, z, u] : Array Operand).map ρ = #[c, d, e, f] := by simp [h, h2, h3, h4]
section
variable {w : World} {B : Nat} {A : Option Addr} {n c : Nat} {xs : List Value}
theorem run_cutR_hi (h : Rd w B A xs) (hl : xs.length = n) (hc : n ≤ c) (k : Nat) (hk : k ≤ n) :
    ∃ A', (Instr.sliceAt 22 (.slice A n c) none (some (.int .i64 (k : Int))) none).run Tryd.prog w = .ok (.slice A' k c) w ∧ Rd w B A' (xs.take k) := by
  have hu' : Tryd.prog.underlying 22 = some (.slice (Tryd.prog.elem 22)) := by kernel_rfl
  have hr1 := run_slice_h (P := Tryd.prog) w 22 A n c hu' .i64 (k : Int) (by omega) (by omega)
  rw [show Tryd.prog.elem 22 = 23 by kernel_rfl, run_sizeOf_of 23 1 (by kernel_rfl), Result.andThen_ok] at hr1
  refine ⟨_, by rw [run_sliceAt_slice w 22 _ _ _ _ hu', hr1]; simp only [Int.toNat_natCast]; rfl, ?_⟩
  split
  · exact h.take _
  · have := (h.take k).drop 0
    simpa using this
theorem run_cutR_lo (h : Rd w B A xs) (hl : xs.length = n) (hc : n ≤ c) (k : Nat) (hk : k ≤ n) :
    ∃ A', (Instr.sliceAt 22 (.slice A n c) (some (.int .i64 (k : Int))) none none).run Tryd.prog w = .ok (.slice A' (n - k) (c - k)) w ∧ Rd w B A' (xs.drop k) := by
  have hu' : Tryd.prog.underlying 22 = some (.slice (Tryd.prog.elem 22)) := by kernel_rfl
  have hcut := rd_cut (i := k) h hl hc
  have hr1 := run_slice_l (P := Tryd.prog) w 22 A n c hu' .i64 (k : Int) (by omega) (by omega)
  rw [show Tryd.prog.elem 22 = 23 by kernel_rfl, run_sizeOf_of 23 1 (by kernel_rfl), Result.andThen_ok] at hr1
  exact ⟨_, by rw [run_sliceAt_slice w 22 _ _ _ _ hu', hr1]; simp only [Int.toNat_natCast]; rfl, hcut⟩
end
set_option maxHeartbeats 16000000 in
theorem twoL_any (ga gk gb gx gy : Nat) (n k0 : Nat) (Aa : Option Addr) (ca : Nat) (f : Nat → Piece) (Ab : Option Addr) (cb : Nat) (g : Nat → Piece) (Ax : Option Addr) (cx : Nat) (x : List (List UInt8)) (Ay : Option Addr) (cy : Nat) (y : List (List UInt8)) (r : Option (List UInt8 × List UInt8)) (w : World)
    (b1 : ga < w.heap.size ∧ gk < w.heap.size ∧ gb < w.heap.size ∧ gx < w.heap.size ∧ gy < w.heap.size)
    (y1 : w.cell? ⟨ga, 0, none⟩ = some (.slice Aa n ca)) (y2 : w.cell? ⟨gk, 0, none⟩ = some (.int .i64 (k0 : Int))) (y3 : w.cell? ⟨gb, 0, none⟩ = some (.slice Ab n cb)) (y4 : w.cell? ⟨gx, 0, none⟩ = some (.slice Ax n cx)) (y5 : w.cell? ⟨gy, 0, none⟩ = some (.slice Ay n cy))
    (hk0 : k0 ≤ n) (hra : RowsAt w Aa n f) (hca : n ≤ ca ∧ ca ≤ maxLen) (hrb : RowsAt w Ab n g) (hcb : n ≤ cb ∧ cb ≤ maxLen) (hx : Ss w Ax n cx x) (hy : Ss w Ay n cy y)
    (ih : ∀ (Aa : Option Addr) (ca : Nat) (Ab : Option Addr) (cb : Nat) (Ax : Option Addr) (cx : Nat) (Ay : Option Addr) (cy : Nat) (W : World), Below w.heap.size w W → RowsAt W Aa k0 f → k0 ≤ ca → ca ≤ maxLen → RowsAt W Ab k0 g → k0 ≤ cb → cb ≤ maxLen → Ss W Ax k0 cx (x.take k0) → Ss W Ay k0 cy (y.take k0) →
      Calls Tryd.prog 58 #[.slice Aa k0 ca, .slice Ab k0 cb, .slice Ax k0 cx, .slice Ay k0 cy] W (ResPost W.heap.size r W)) :
    Calls Tryd.prog 83 #[.pointer (some ⟨ga, 0, none⟩), .pointer (some ⟨gk, 0, none⟩), .pointer (some ⟨gb, 0, none⟩), .pointer (some ⟨gx, 0, none⟩), .pointer (some ⟨gy, 0, none⟩)] w (ResPost w.heap.size r w) := by
  obtain ⟨w1, hw1⟩ : ∃ w1, w.alloc (.cells #[.slice none 0 0, .slice none 0 0] 29) = w1 := ⟨_, rfl⟩
  have hb1 : Below w.heap.size w w1 := by rw [← hw1]; exact (Below.refl _ w).alloc (Nat.le_refl _) _
  have hrow := row_new w #[.slice none 0 0, .slice none 0 0] 29
  rw [hw1] at hrow
  have HROW0 := Lib.hid hrow
  have HB1 := Lib.hid hb1
  have HW1 := Lib.hid hw1
  have CA := Lib.hid (show ∀ W, Below w1.heap.size w1 W → W.cell? ⟨ga, 0, none⟩ = some (.slice Aa n ca) from fun W hW => ((bt hb1 hW).cell (p := ⟨ga, 0, none⟩) b1.1).trans y1)
  have CK := Lib.hid (show ∀ W, Below w1.heap.size w1 W → W.cell? ⟨gk, 0, none⟩ = some (.int .i64 (k0 : Int)) from fun W hW => ((bt hb1 hW).cell (p := ⟨gk, 0, none⟩) b1.2.1).trans y2)
  have CB := Lib.hid (show ∀ W, Below w1.heap.size w1 W → W.cell? ⟨gb, 0, none⟩ = some (.slice Ab n cb) from fun W hW => ((bt hb1 hW).cell (p := ⟨gb, 0, none⟩) b1.2.2.1).trans y3)
  have CX := Lib.hid (show ∀ W, Below w1.heap.size w1 W → W.cell? ⟨gx, 0, none⟩ = some (.slice Ax n cx) from fun W hW => ((bt hb1 hW).cell (p := ⟨gx, 0, none⟩) b1.2.2.2.1).trans y4)
  have CY := Lib.hid (show ∀ W, Below w1.heap.size w1 W → W.cell? ⟨gy, 0, none⟩ = some (.slice Ay n cy) from fun W hW => ((bt hb1 hW).cell (p := ⟨gy, 0, none⟩) b1.2.2.2.2).trans y5)
  have HRA := Lib.hid (show ∀ W, Below w1.heap.size w1 W → RowsAt W Aa n f from fun W hW => hra.keep (bt hb1 hW))
  have HRB := Lib.hid (show ∀ W, Below w1.heap.size w1 W → RowsAt W Ab n g from fun W hW => hrb.keep (bt hb1 hW))
  have HSX := Lib.hid (show ∀ W, Below w1.heap.size w1 W → Ss W Ax n cx x from fun W hW => hx.keep (bt hb1 hW))
  have HSY := Lib.hid (show ∀ W, Below w1.heap.size w1 W → Ss W Ay n cy y from fun W hW => hy.keep (bt hb1 hW))
  have HLT := Lib.hid (show (x.take k0).length = k0 ∧ (y.take k0).length = k0 by rw [List.length_take, List.length_take, hx.len, hy.len]; omega)
  have HK := Lib.hid (show (n ≤ ca ∧ ca ≤ maxLen) ∧ (n ≤ cb ∧ cb ≤ maxLen) ∧ True from ⟨hca, hcb, trivial⟩)
  have HK2 := Lib.hid (show (k0 ≤ ca ∧ ca ≤ maxLen) ∧ (k0 ≤ cb ∧ cb ≤ maxLen) ∧ True from ⟨⟨by omega, by omega⟩, ⟨by omega, by omega⟩, trivial⟩)
  have IH := Lib.hid ih
  have hsz := alloc_size w (.cells #[.slice none 0 0, .slice none 0 0] 29)
  rw [hw1] at hsz
  have HSZ := Lib.hid hsz
  clear hsz hrow hb1 hw1 y1 y2 y3 y4 y5 b1 hra hrb hx hy ih hca hcb
  go_enter Tryd.func83, Tryd.ntmps83
  go_upto_region 1 with fail
  rw [HW1.out]
  refine Free.wp_free_l 15 (fun W => Below w1.heap.size w1 W) [Free.kc (.slice Aa n ca), Free.kc (.int .i64 (k0 : Int)), Free.kr (k0) (((List.range n).map fun i => pv (f i)).take k0), Free.kc (.slice Ab n cb), Free.kc (.int .i64 (k0 : Int)), Free.kr (k0) (((List.range n).map fun i => pv (g i)).take k0), Free.kc (.slice Ax n cx), Free.kc (.int .i64 (k0 : Int)), Free.kr (k0) (((x).take k0).map sv), Free.kc (.slice Ay n cy), Free.kc (.int .i64 (k0 : Int)), Free.kr (k0) (((y).take k0).map sv), Free.kR (w1.heap.size) (r), Free.kG (w1.heap.size) (r), Free.kc (.bool r.isSome)] (by kernel_rfl) (by kernel_rfl) (by decide) (Below.refl _ _).drew (fun w w' h g => bt h g) ?_ ?_
  · refine Free.forall_succ (Free.forall_succ (Free.forall_succ (Free.forall_succ (Free.forall_succ (Free.forall_succ (Free.forall_succ (Free.forall_succ (Free.forall_succ (Free.forall_succ (Free.forall_succ (Free.forall_succ (Free.forall_succ (Free.forall_succ (Free.forall_succ (Free.forall_zero) ?_) ?_) ?_) ?_) ?_) ?_) ?_) ?_) ?_) ?_) ?_) ?_) ?_) ?_) ?_
    · exact Free.ob_plain _ rfl rfl fun vals wq hC hd => (by exact Free.d_load rfl (show _ = (Value.pointer (some ⟨ga, 0, none⟩)) from by kernel_rfl) (by have hcc := CA.out wq hC; go_simp) rfl)
    · exact Free.ob_plain _ rfl rfl fun vals wq hC hd => (by exact Free.d_load rfl (show _ = (Value.pointer (some ⟨gk, 0, none⟩)) from by kernel_rfl) (by have hcc := CK.out wq hC; go_simp) rfl)
    · exact Free.ob_plain _ rfl rfl fun vals wq hC hd => (by exact (by obtain ⟨A', hrun, hss⟩ := run_cutR_hi (rows_rd (HRA.out wq hC)) (by simp) (HK.out.1.1) k0 hk0; exact Free.d_slice rfl (Eq.trans (b := vals 0) (by kernel_rfl) (hd 0 (by kernel_rfl))) rfl (show _ = some (Value.int .i64 (k0 : Int)) from congrArg some (Eq.trans (b := vals 1) (by kernel_rfl) (hd 1 (by kernel_rfl)))) rfl hrun ⟨A', ca, rfl, hss, HK2.out.1.1, HK2.out.1.2⟩))
    · exact Free.ob_plain _ rfl rfl fun vals wq hC hd => (by exact Free.d_load rfl (show _ = (Value.pointer (some ⟨gb, 0, none⟩)) from by kernel_rfl) (by have hcc := CB.out wq hC; go_simp) rfl)
    · exact Free.ob_plain _ rfl rfl fun vals wq hC hd => (by exact Free.d_load rfl (show _ = (Value.pointer (some ⟨gk, 0, none⟩)) from by kernel_rfl) (by have hcc := CK.out wq hC; go_simp) rfl)
    · exact Free.ob_plain _ rfl rfl fun vals wq hC hd => (by exact (by obtain ⟨A', hrun, hss⟩ := run_cutR_hi (rows_rd (HRB.out wq hC)) (by simp) (HK.out.2.1.1) k0 hk0; exact Free.d_slice rfl (Eq.trans (b := vals 3) (by kernel_rfl) (hd 3 (by kernel_rfl))) rfl (show _ = some (Value.int .i64 (k0 : Int)) from congrArg some (Eq.trans (b := vals 4) (by kernel_rfl) (hd 4 (by kernel_rfl)))) rfl hrun ⟨A', cb, rfl, hss, HK2.out.2.1.1, HK2.out.2.1.2⟩))
    · exact Free.ob_plain _ rfl rfl fun vals wq hC hd => (by exact Free.d_load rfl (show _ = (Value.pointer (some ⟨gx, 0, none⟩)) from by kernel_rfl) (by have hcc := CX.out wq hC; go_simp) rfl)
    · exact Free.ob_plain _ rfl rfl fun vals wq hC hd => (by exact Free.d_load rfl (show _ = (Value.pointer (some ⟨gk, 0, none⟩)) from by kernel_rfl) (by have hcc := CK.out wq hC; go_simp) rfl)
    · exact Free.ob_plain _ rfl rfl fun vals wq hC hd => (by exact (by obtain ⟨A', hrun, hss⟩ := run_cutS_hi (HSX.out wq hC) k0 hk0; exact Free.d_slice rfl (Eq.trans (b := vals 6) (by kernel_rfl) (hd 6 (by kernel_rfl))) rfl (show _ = some (Value.int .i64 (k0 : Int)) from congrArg some (Eq.trans (b := vals 7) (by kernel_rfl) (hd 7 (by kernel_rfl)))) rfl hrun ⟨A', cx, rfl, hss.rd, hss.cap, hss.max⟩))
    · exact Free.ob_plain _ rfl rfl fun vals wq hC hd => (by exact Free.d_load rfl (show _ = (Value.pointer (some ⟨gy, 0, none⟩)) from by kernel_rfl) (by have hcc := CY.out wq hC; go_simp) rfl)
    · exact Free.ob_plain _ rfl rfl fun vals wq hC hd => (by exact Free.d_load rfl (show _ = (Value.pointer (some ⟨gk, 0, none⟩)) from by kernel_rfl) (by have hcc := CK.out wq hC; go_simp) rfl)
    · exact Free.ob_plain _ rfl rfl fun vals wq hC hd => (by exact (by obtain ⟨A', hrun, hss⟩ := run_cutS_hi (HSY.out wq hC) k0 hk0; exact Free.d_slice rfl (Eq.trans (b := vals 9) (by kernel_rfl) (hd 9 (by kernel_rfl))) rfl (show _ = some (Value.int .i64 (k0 : Int)) from congrArg some (Eq.trans (b := vals 10) (by kernel_rfl) (hd 10 (by kernel_rfl)))) rfl hrun ⟨A', cy, rfl, hss.rd, hss.cap, hss.max⟩))
    · exact Free.ob_plain _ rfl rfl fun vals wq hC hd => (by obtain ⟨A2, k2, e2, rd2, le2, mx2⟩ := hd 2 (by kernel_rfl); obtain ⟨A5, k5, e5, rd5, le5, mx5⟩ := hd 5 (by kernel_rfl); obtain ⟨A8, k8, e8, rd8, le8, mx8⟩ := hd 8 (by kernel_rfl); obtain ⟨A11, k11, e11, rd11, le11, mx11⟩ := hd 11 (by kernel_rfl); exact Free.d_call Tryd.func58 (by kernel_rfl) (by kernel_rfl) rfl rfl (arg4c (Eq.trans (b := vals 2) (by kernel_rfl) e2) (Eq.trans (b := vals 5) (by kernel_rfl) e5) (Eq.trans (b := vals 8) (by kernel_rfl) e8) (Eq.trans (b := vals 11) (by kernel_rfl) e11)) ((IH.out A2 k2 A5 k5 A8 k8 A11 k11 wq (bt HB1.out hC) (rd_rows rd2 (fun i hi => by rw [List.getElem?_take_of_lt hi, List.getElem?_map, List.getElem?_range (by omega)]; rfl) (fun i hi => rows_pc (HRA.out wq hC) (by omega))) le2 mx2 (rd_rows rd5 (fun i hi => by rw [List.getElem?_take_of_lt hi, List.getElem?_map, List.getElem?_range (by omega)]; rfl) (fun i hi => rows_pc (HRB.out wq hC) (by omega))) le5 mx5 ⟨rd8, HLT.out.1, le8, mx8⟩ ⟨rd11, HLT.out.2, le11, mx11⟩).mono fun e w2 h => (by obtain ⟨A7, n7, c7, B7, m7, k7, he, h1, h2, hb⟩ := h; exact ⟨_, he, ⟨_, rfl, ⟨A7, n7, c7, B7, m7, k7, rfl, h1.base hC.size, h2.base hC.size⟩⟩, hb⟩)))
    · exact Free.ob_plain _ rfl rfl fun vals wq hC hd => (by obtain ⟨v12, e12, pd12⟩ := hd 12 (by kernel_rfl); exact (by obtain ⟨A7, n7, c7, B7, m7, k7, he7, h1, h2⟩ := pd12; exact Free.d_extract rfl (Eq.trans (Eq.trans (b := vals 12) (by kernel_rfl) e12) he7) (by first | rfl | (go_simp; done)) ⟨_, rfl, ⟨A7, n7, c7, B7, m7, k7, rfl, h1, h2⟩⟩))
    · exact Free.ob_plain _ rfl rfl fun vals wq hC hd => (by obtain ⟨v12, e12, pd12⟩ := hd 12 (by kernel_rfl); exact (by obtain ⟨A7, n7, c7, B7, m7, k7, he7, h1, h2⟩ := pd12; exact Free.d_extract rfl (Eq.trans (Eq.trans (b := vals 12) (by kernel_rfl) e12) he7) (by first | rfl | (go_simp; done)) rfl))
  · intro vals wq hC hd
    have e0 : vals 0 = (.slice Aa n ca) := hd 0 (by decide)
    have e1 : vals 1 = (.int .i64 (k0 : Int)) := hd 1 (by decide)
    obtain ⟨A2, k2, e2, rd2, le2, mx2⟩ := hd 2 (by decide)
    have e3 : vals 3 = (.slice Ab n cb) := hd 3 (by decide)
    have e4 : vals 4 = (.int .i64 (k0 : Int)) := hd 4 (by decide)
    obtain ⟨A5, k5, e5, rd5, le5, mx5⟩ := hd 5 (by decide)
    have e6 : vals 6 = (.slice Ax n cx) := hd 6 (by decide)
    have e7 : vals 7 = (.int .i64 (k0 : Int)) := hd 7 (by decide)
    obtain ⟨A8, k8, e8, rd8, le8, mx8⟩ := hd 8 (by decide)
    have e9 : vals 9 = (.slice Ay n cy) := hd 9 (by decide)
    have e10 : vals 10 = (.int .i64 (k0 : Int)) := hd 10 (by decide)
    obtain ⟨A11, k11, e11, rd11, le11, mx11⟩ := hd 11 (by decide)
    obtain ⟨v12, e12, pd12⟩ := hd 12 (by decide)
    obtain ⟨v13, e13, pd13⟩ := hd 13 (by decide)
    have e14 : vals 14 = (.bool r.isSome) := hd 14 (by decide)
    simp only [Free.frameOf, List.range, List.range.loop, List.foldl, Free.dstOf, List.getElem?_toArray, List.getElem?_cons_zero, List.getElem?_cons_succ, Option.bind_some, Act.put, List.setIfInBounds_toArray, List.set_cons_zero, List.set_cons_succ, e0, e1, e2, e3, e4, e5, e6, e7, e8, e9, e10, e11, e12, e13, e14]
    clear hd e0 e1 e2 e3 e4 e5 e6 e7 e8 e9 e10 e11 e12 e13 e14
    obtain ⟨A7, n7, c7, B7, m7, k7, rfl, hf1, hf2⟩ := pd13
    have HB4 := Lib.hid (bt HB1.out hC)
    have hres := Row.belowS HROW0.out hC (Nat.le_refl _)
    have x0 := hres.cellQ 0 _ rfl
    have x1 := hres.cellQ 1 _ rfl
    have f0 := hres.frozen 0
    have f1 := hres.frozen 1
    have HROW := Lib.hid (show ∀ u v, Row (setFrom w.heap.size wq 0 [u, v]) w.heap.size #[u, v] 29 from fun u v => hres.all [u, v] rfl)
    have HF := Lib.hid (And.intro hf1 hf2)
    have HL := Lib.hid (show w.heap.size < w1.heap.size by rw [HSZ.out]; omega)
    clear hres hf1 hf2 hC pd12 rd2 le2 mx2 rd5 le5 mx5 rd8 le8 mx8 rd11 le11 mx11
    go_wp2
    generalize hwd : World.setCell (World.setCell wq _ _) _ _ = wd
    have hsf : setFrom w.heap.size wq 0 [.slice A7 n7 c7, .slice B7 m7 k7] = wd := by rw [← hwd]; rfl
    have r0 : wd.cell? ⟨w.heap.size, 0, none⟩ = some (.slice A7 n7 c7) := by rw [← hsf]; exact (HROW.out _ _).cellQ 0 _ rfl
    have r1 : wd.cell? ⟨w.heap.size, 1, none⟩ = some (.slice B7 m7 k7) := by rw [← hsf]; exact (HROW.out _ _).cellQ 1 _ rfl
    refine bodyPost_ret (v := .tuple #[.agg #[.slice A7 n7 c7, .slice B7 m7 k7], .bool r.isSome]) (by simp [results, Tryd.results83, go_sem, r0, r1]) rfl ?_
    exact ⟨A7, n7, c7, B7, m7, k7, rfl, by rw [← hsf]; exact (HF.out.1.set HL.out _ 0).base (Nat.le_of_lt HL.out), by rw [← hsf]; exact (HF.out.2.set HL.out _ 0).base (Nat.le_of_lt HL.out), by rw [← hsf]; exact below_setFrom (Nat.le_refl _) _ 0 HB4.out⟩
set_option maxHeartbeats 16000000 in
theorem twoR_any (ga gk gb gx gy : Nat) (n k0 : Nat) (Aa : Option Addr) (ca : Nat) (f : Nat → Piece) (Ab : Option Addr) (cb : Nat) (g : Nat → Piece) (Ax : Option Addr) (cx : Nat) (x : List (List UInt8)) (Ay : Option Addr) (cy : Nat) (y : List (List UInt8)) (r : Option (List UInt8 × List UInt8)) (w : World)
    (b1 : ga < w.heap.size ∧ gk < w.heap.size ∧ gb < w.heap.size ∧ gx < w.heap.size ∧ gy < w.heap.size)
    (y1 : w.cell? ⟨ga, 0, none⟩ = some (.slice Aa n ca)) (y2 : w.cell? ⟨gk, 0, none⟩ = some (.int .i64 (k0 : Int))) (y3 : w.cell? ⟨gb, 0, none⟩ = some (.slice Ab n cb)) (y4 : w.cell? ⟨gx, 0, none⟩ = some (.slice Ax n cx)) (y5 : w.cell? ⟨gy, 0, none⟩ = some (.slice Ay n cy))
    (hk0 : k0 ≤ n) (hra : RowsAt w Aa n f) (hca : n ≤ ca ∧ ca ≤ maxLen) (hrb : RowsAt w Ab n g) (hcb : n ≤ cb ∧ cb ≤ maxLen) (hx : Ss w Ax n cx x) (hy : Ss w Ay n cy y)
    (ih : ∀ (Aa : Option Addr) (ca : Nat) (Ab : Option Addr) (cb : Nat) (Ax : Option Addr) (cx : Nat) (Ay : Option Addr) (cy : Nat) (W : World), Below w.heap.size w W → RowsAt W Aa (n - k0) (fun i => f (k0 + i)) → (n - k0) ≤ ca → ca ≤ maxLen → RowsAt W Ab (n - k0) (fun i => g (k0 + i)) → (n - k0) ≤ cb → cb ≤ maxLen → Ss W Ax (n - k0) cx (x.drop k0) → Ss W Ay (n - k0) cy (y.drop k0) →
      Calls Tryd.prog 58 #[.slice Aa (n - k0) ca, .slice Ab (n - k0) cb, .slice Ax (n - k0) cx, .slice Ay (n - k0) cy] W (ResPost W.heap.size r W)) :
    Calls Tryd.prog 84 #[.pointer (some ⟨ga, 0, none⟩), .pointer (some ⟨gk, 0, none⟩), .pointer (some ⟨gb, 0, none⟩), .pointer (some ⟨gx, 0, none⟩), .pointer (some ⟨gy, 0, none⟩)] w (ResPost w.heap.size r w) := by
  obtain ⟨w1, hw1⟩ : ∃ w1, w.alloc (.cells #[.slice none 0 0, .slice none 0 0] 29) = w1 := ⟨_, rfl⟩
  have hb1 : Below w.heap.size w w1 := by rw [← hw1]; exact (Below.refl _ w).alloc (Nat.le_refl _) _
  have hrow := row_new w #[.slice none 0 0, .slice none 0 0] 29
  rw [hw1] at hrow
  have HROW0 := Lib.hid hrow
  have HB1 := Lib.hid hb1
  have HW1 := Lib.hid hw1
  have CA := Lib.hid (show ∀ W, Below w1.heap.size w1 W → W.cell? ⟨ga, 0, none⟩ = some (.slice Aa n ca) from fun W hW => ((bt hb1 hW).cell (p := ⟨ga, 0, none⟩) b1.1).trans y1)
  have CK := Lib.hid (show ∀ W, Below w1.heap.size w1 W → W.cell? ⟨gk, 0, none⟩ = some (.int .i64 (k0 : Int)) from fun W hW => ((bt hb1 hW).cell (p := ⟨gk, 0, none⟩) b1.2.1).trans y2)
  have CB := Lib.hid (show ∀ W, Below w1.heap.size w1 W → W.cell? ⟨gb, 0, none⟩ = some (.slice Ab n cb) from fun W hW => ((bt hb1 hW).cell (p := ⟨gb, 0, none⟩) b1.2.2.1).trans y3)
  have CX := Lib.hid (show ∀ W, Below w1.heap.size w1 W → W.cell? ⟨gx, 0, none⟩ = some (.slice Ax n cx) from fun W hW => ((bt hb1 hW).cell (p := ⟨gx, 0, none⟩) b1.2.2.2.1).trans y4)
  have CY := Lib.hid (show ∀ W, Below w1.heap.size w1 W → W.cell? ⟨gy, 0, none⟩ = some (.slice Ay n cy) from fun W hW => ((bt hb1 hW).cell (p := ⟨gy, 0, none⟩) b1.2.2.2.2).trans y5)
  have HRA := Lib.hid (show ∀ W, Below w1.heap.size w1 W → RowsAt W Aa n f from fun W hW => hra.keep (bt hb1 hW))
  have HRB := Lib.hid (show ∀ W, Below w1.heap.size w1 W → RowsAt W Ab n g from fun W hW => hrb.keep (bt hb1 hW))
  have HSX := Lib.hid (show ∀ W, Below w1.heap.size w1 W → Ss W Ax n cx x from fun W hW => hx.keep (bt hb1 hW))
  have HSY := Lib.hid (show ∀ W, Below w1.heap.size w1 W → Ss W Ay n cy y from fun W hW => hy.keep (bt hb1 hW))
  have HLT := Lib.hid (show (x.drop k0).length = (n - k0) ∧ (y.drop k0).length = (n - k0) by rw [List.length_drop, List.length_drop, hx.len, hy.len]; exact ⟨rfl, rfl⟩)
  have HK := Lib.hid (show (n ≤ ca ∧ ca ≤ maxLen) ∧ (n ≤ cb ∧ cb ≤ maxLen) ∧ True from ⟨hca, hcb, trivial⟩)
  have HK2 := Lib.hid (show ((n - k0) ≤ (ca - k0) ∧ (ca - k0) ≤ maxLen) ∧ ((n - k0) ≤ (cb - k0) ∧ (cb - k0) ≤ maxLen) ∧ True from ⟨⟨by omega, by omega⟩, ⟨by omega, by omega⟩, trivial⟩)
  have IH := Lib.hid ih
  have hsz := alloc_size w (.cells #[.slice none 0 0, .slice none 0 0] 29)
  rw [hw1] at hsz
  have HSZ := Lib.hid hsz
  clear hsz hrow hb1 hw1 y1 y2 y3 y4 y5 b1 hra hrb hx hy ih hca hcb
  go_enter Tryd.func84, Tryd.ntmps84
  go_upto_region 1 with fail
  rw [HW1.out]
  refine Free.wp_free_l 15 (fun W => Below w1.heap.size w1 W) [Free.kc (.slice Aa n ca), Free.kc (.int .i64 (k0 : Int)), Free.kr (n - k0) (((List.range n).map fun i => pv (f i)).drop k0), Free.kc (.slice Ab n cb), Free.kc (.int .i64 (k0 : Int)), Free.kr (n - k0) (((List.range n).map fun i => pv (g i)).drop k0), Free.kc (.slice Ax n cx), Free.kc (.int .i64 (k0 : Int)), Free.kr (n - k0) (((x).drop k0).map sv), Free.kc (.slice Ay n cy), Free.kc (.int .i64 (k0 : Int)), Free.kr (n - k0) (((y).drop k0).map sv), Free.kR (w1.heap.size) (r), Free.kG (w1.heap.size) (r), Free.kc (.bool r.isSome)] (by kernel_rfl) (by kernel_rfl) (by decide) (Below.refl _ _).drew (fun w w' h g => bt h g) ?_ ?_
  · refine Free.forall_succ (Free.forall_succ (Free.forall_succ (Free.forall_succ (Free.forall_succ (Free.forall_succ (Free.forall_succ (Free.forall_succ (Free.forall_succ (Free.forall_succ (Free.forall_succ (Free.forall_succ (Free.forall_succ (Free.forall_succ (Free.forall_succ (Free.forall_zero) ?_) ?_) ?_) ?_) ?_) ?_) ?_) ?_) ?_) ?_) ?_) ?_) ?_) ?_) ?_
    · exact Free.ob_plain _ rfl rfl fun vals wq hC hd => (by exact Free.d_load rfl (show _ = (Value.pointer (some ⟨ga, 0, none⟩)) from by kernel_rfl) (by have hcc := CA.out wq hC; go_simp) rfl)
    · exact Free.ob_plain _ rfl rfl fun vals wq hC hd => (by exact Free.d_load rfl (show _ = (Value.pointer (some ⟨gk, 0, none⟩)) from by kernel_rfl) (by have hcc := CK.out wq hC; go_simp) rfl)
    · exact Free.ob_plain _ rfl rfl fun vals wq hC hd => (by exact (by obtain ⟨A', hrun, hss⟩ := run_cutR_lo (rows_rd (HRA.out wq hC)) (by simp) (HK.out.1.1) k0 hk0; exact Free.d_slice rfl (Eq.trans (b := vals 0) (by kernel_rfl) (hd 0 (by kernel_rfl))) (show _ = some (Value.int .i64 (k0 : Int)) from congrArg some (Eq.trans (b := vals 1) (by kernel_rfl) (hd 1 (by kernel_rfl)))) rfl rfl hrun ⟨A', ca - k0, rfl, hss, HK2.out.1.1, HK2.out.1.2⟩))
    · exact Free.ob_plain _ rfl rfl fun vals wq hC hd => (by exact Free.d_load rfl (show _ = (Value.pointer (some ⟨gb, 0, none⟩)) from by kernel_rfl) (by have hcc := CB.out wq hC; go_simp) rfl)
    · exact Free.ob_plain _ rfl rfl fun vals wq hC hd => (by exact Free.d_load rfl (show _ = (Value.pointer (some ⟨gk, 0, none⟩)) from by kernel_rfl) (by have hcc := CK.out wq hC; go_simp) rfl)
    · exact Free.ob_plain _ rfl rfl fun vals wq hC hd => (by exact (by obtain ⟨A', hrun, hss⟩ := run_cutR_lo (rows_rd (HRB.out wq hC)) (by simp) (HK.out.2.1.1) k0 hk0; exact Free.d_slice rfl (Eq.trans (b := vals 3) (by kernel_rfl) (hd 3 (by kernel_rfl))) (show _ = some (Value.int .i64 (k0 : Int)) from congrArg some (Eq.trans (b := vals 4) (by kernel_rfl) (hd 4 (by kernel_rfl)))) rfl rfl hrun ⟨A', cb - k0, rfl, hss, HK2.out.2.1.1, HK2.out.2.1.2⟩))
    · exact Free.ob_plain _ rfl rfl fun vals wq hC hd => (by exact Free.d_load rfl (show _ = (Value.pointer (some ⟨gx, 0, none⟩)) from by kernel_rfl) (by have hcc := CX.out wq hC; go_simp) rfl)
    · exact Free.ob_plain _ rfl rfl fun vals wq hC hd => (by exact Free.d_load rfl (show _ = (Value.pointer (some ⟨gk, 0, none⟩)) from by kernel_rfl) (by have hcc := CK.out wq hC; go_simp) rfl)
    · exact Free.ob_plain _ rfl rfl fun vals wq hC hd => (by exact (by obtain ⟨A', hrun, hss⟩ := run_cutS_lo (HSX.out wq hC) k0 hk0; exact Free.d_slice rfl (Eq.trans (b := vals 6) (by kernel_rfl) (hd 6 (by kernel_rfl))) (show _ = some (Value.int .i64 (k0 : Int)) from congrArg some (Eq.trans (b := vals 7) (by kernel_rfl) (hd 7 (by kernel_rfl)))) rfl rfl hrun ⟨A', cx - k0, rfl, hss.rd, hss.cap, hss.max⟩))
    · exact Free.ob_plain _ rfl rfl fun vals wq hC hd => (by exact Free.d_load rfl (show _ = (Value.pointer (some ⟨gy, 0, none⟩)) from by kernel_rfl) (by have hcc := CY.out wq hC; go_simp) rfl)
    · exact Free.ob_plain _ rfl rfl fun vals wq hC hd => (by exact Free.d_load rfl (show _ = (Value.pointer (some ⟨gk, 0, none⟩)) from by kernel_rfl) (by have hcc := CK.out wq hC; go_simp) rfl)
    · exact Free.ob_plain _ rfl rfl fun vals wq hC hd => (by exact (by obtain ⟨A', hrun, hss⟩ := run_cutS_lo (HSY.out wq hC) k0 hk0; exact Free.d_slice rfl (Eq.trans (b := vals 9) (by kernel_rfl) (hd 9 (by kernel_rfl))) (show _ = some (Value.int .i64 (k0 : Int)) from congrArg some (Eq.trans (b := vals 10) (by kernel_rfl) (hd 10 (by kernel_rfl)))) rfl rfl hrun ⟨A', cy - k0, rfl, hss.rd, hss.cap, hss.max⟩))
    · exact Free.ob_plain _ rfl rfl fun vals wq hC hd => (by obtain ⟨A2, k2, e2, rd2, le2, mx2⟩ := hd 2 (by kernel_rfl); obtain ⟨A5, k5, e5, rd5, le5, mx5⟩ := hd 5 (by kernel_rfl); obtain ⟨A8, k8, e8, rd8, le8, mx8⟩ := hd 8 (by kernel_rfl); obtain ⟨A11, k11, e11, rd11, le11, mx11⟩ := hd 11 (by kernel_rfl); exact Free.d_call Tryd.func58 (by kernel_rfl) (by kernel_rfl) rfl rfl (arg4c (Eq.trans (b := vals 2) (by kernel_rfl) e2) (Eq.trans (b := vals 5) (by kernel_rfl) e5) (Eq.trans (b := vals 8) (by kernel_rfl) e8) (Eq.trans (b := vals 11) (by kernel_rfl) e11)) ((IH.out A2 k2 A5 k5 A8 k8 A11 k11 wq (bt HB1.out hC) (rd_rows rd2 (fun i hi => by rw [List.getElem?_drop, List.getElem?_map, List.getElem?_range (by omega)]; rfl) (fun i hi => rows_pc (HRA.out wq hC) (by omega))) le2 mx2 (rd_rows rd5 (fun i hi => by rw [List.getElem?_drop, List.getElem?_map, List.getElem?_range (by omega)]; rfl) (fun i hi => rows_pc (HRB.out wq hC) (by omega))) le5 mx5 ⟨rd8, HLT.out.1, le8, mx8⟩ ⟨rd11, HLT.out.2, le11, mx11⟩).mono fun e w2 h => (by obtain ⟨A7, n7, c7, B7, m7, k7, he, h1, h2, hb⟩ := h; exact ⟨_, he, ⟨_, rfl, ⟨A7, n7, c7, B7, m7, k7, rfl, h1.base hC.size, h2.base hC.size⟩⟩, hb⟩)))
    · exact Free.ob_plain _ rfl rfl fun vals wq hC hd => (by obtain ⟨v12, e12, pd12⟩ := hd 12 (by kernel_rfl); exact (by obtain ⟨A7, n7, c7, B7, m7, k7, he7, h1, h2⟩ := pd12; exact Free.d_extract rfl (Eq.trans (Eq.trans (b := vals 12) (by kernel_rfl) e12) he7) (by first | rfl | (go_simp; done)) ⟨_, rfl, ⟨A7, n7, c7, B7, m7, k7, rfl, h1, h2⟩⟩))
    · exact Free.ob_plain _ rfl rfl fun vals wq hC hd => (by obtain ⟨v12, e12, pd12⟩ := hd 12 (by kernel_rfl); exact (by obtain ⟨A7, n7, c7, B7, m7, k7, he7, h1, h2⟩ := pd12; exact Free.d_extract rfl (Eq.trans (Eq.trans (b := vals 12) (by kernel_rfl) e12) he7) (by first | rfl | (go_simp; done)) rfl))
  · intro vals wq hC hd
    have e0 : vals 0 = (.slice Aa n ca) := hd 0 (by decide)
    have e1 : vals 1 = (.int .i64 (k0 : Int)) := hd 1 (by decide)
    obtain ⟨A2, k2, e2, rd2, le2, mx2⟩ := hd 2 (by decide)
    have e3 : vals 3 = (.slice Ab n cb) := hd 3 (by decide)
    have e4 : vals 4 = (.int .i64 (k0 : Int)) := hd 4 (by decide)
    obtain ⟨A5, k5, e5, rd5, le5, mx5⟩ := hd 5 (by decide)
    have e6 : vals 6 = (.slice Ax n cx) := hd 6 (by decide)
    have e7 : vals 7 = (.int .i64 (k0 : Int)) := hd 7 (by decide)
    obtain ⟨A8, k8, e8, rd8, le8, mx8⟩ := hd 8 (by decide)
    have e9 : vals 9 = (.slice Ay n cy) := hd 9 (by decide)
    have e10 : vals 10 = (.int .i64 (k0 : Int)) := hd 10 (by decide)
    obtain ⟨A11, k11, e11, rd11, le11, mx11⟩ := hd 11 (by decide)
    obtain ⟨v12, e12, pd12⟩ := hd 12 (by decide)
    obtain ⟨v13, e13, pd13⟩ := hd 13 (by decide)
    have e14 : vals 14 = (.bool r.isSome) := hd 14 (by decide)
    simp only [Free.frameOf, List.range, List.range.loop, List.foldl, Free.dstOf, List.getElem?_toArray, List.getElem?_cons_zero, List.getElem?_cons_succ, Option.bind_some, Act.put, List.setIfInBounds_toArray, List.set_cons_zero, List.set_cons_succ, e0, e1, e2, e3, e4, e5, e6, e7, e8, e9, e10, e11, e12, e13, e14]
    clear hd e0 e1 e2 e3 e4 e5 e6 e7 e8 e9 e10 e11 e12 e13 e14
    obtain ⟨A7, n7, c7, B7, m7, k7, rfl, hf1, hf2⟩ := pd13
    have HB4 := Lib.hid (bt HB1.out hC)
    have hres := Row.belowS HROW0.out hC (Nat.le_refl _)
    have x0 := hres.cellQ 0 _ rfl
    have x1 := hres.cellQ 1 _ rfl
    have f0 := hres.frozen 0
    have f1 := hres.frozen 1
    have HROW := Lib.hid (show ∀ u v, Row (setFrom w.heap.size wq 0 [u, v]) w.heap.size #[u, v] 29 from fun u v => hres.all [u, v] rfl)
    have HF := Lib.hid (And.intro hf1 hf2)
    have HL := Lib.hid (show w.heap.size < w1.heap.size by rw [HSZ.out]; omega)
    clear hres hf1 hf2 hC pd12 rd2 le2 mx2 rd5 le5 mx5 rd8 le8 mx8 rd11 le11 mx11
    go_wp2
    generalize hwd : World.setCell (World.setCell wq _ _) _ _ = wd
    have hsf : setFrom w.heap.size wq 0 [.slice A7 n7 c7, .slice B7 m7 k7] = wd := by rw [← hwd]; rfl
    have r0 : wd.cell? ⟨w.heap.size, 0, none⟩ = some (.slice A7 n7 c7) := by rw [← hsf]; exact (HROW.out _ _).cellQ 0 _ rfl
    have r1 : wd.cell? ⟨w.heap.size, 1, none⟩ = some (.slice B7 m7 k7) := by rw [← hsf]; exact (HROW.out _ _).cellQ 1 _ rfl
    refine bodyPost_ret (v := .tuple #[.agg #[.slice A7 n7 c7, .slice B7 m7 k7], .bool r.isSome]) (by simp [results, Tryd.results84, go_sem, r0, r1]) rfl ?_
    exact ⟨A7, n7, c7, B7, m7, k7, rfl, by rw [← hsf]; exact (HF.out.1.set HL.out _ 0).base (Nat.le_of_lt HL.out), by rw [← hsf]; exact (HF.out.2.set HL.out _ 0).base (Nat.le_of_lt HL.out), by rw [← hsf]; exact below_setFrom (Nat.le_refl _) _ 0 HB4.out⟩
end Go.Proofs.YtlcdpbpbfofmmaaDoor

namespace Go.Proofs.YtlcdpbpbfofmmaaDoor
set_option maxRecDepth 100000
set_option linter.unusedVariables false
open Go.RowKit
theorem parts3 {ρ : Operand → Value} {x y z : Operand} {c d e : Value} (h : ρ x = c) (h2 : ρ y = d) (h3 : ρ z = e) : ((#[(0, x), (1, y), (2, z)] : Array (Nat × Operand)).map fun (i, x) => (i, ρ x)) = #[(0, c), (1, d), (2, e)] := by simp [h, h2, h3]
theorem caps5 {ρ : Operand → Value} {x y z u t : Operand} {c d e f g : Value} (h : ρ x = c) (h2 : ρ y = d) (h3 : ρ z = e) (h4 : ρ u = f) (h5 : ρ t = g) : (#[x, y, z, u, t] : Array Operand).map ρ = #[c, d, e, f, g] := by simp [h, h2, h3, h4, h5]
theorem d_makeFn {P : Program} {ρ : Operand → Value} {V : Value → World → Prop} {w : World} {o : Oper} {f : FuncId} {xs : Array Operand} {caps : Array Value} (ho : o.op = .makeFunc (.func f) #[] xs) (hx : xs.map ρ = caps) (hV : V (.func (.func f) #[] caps) w) : Free.Does P V w ρ o := by
  unfold Free.Does; simp [execOp, ho, hx, Instr.makeFunc]; exact ⟨hV, Below.refl _ _⟩
/-- A row of searches. -/
def Tries (w : World) (v : Value) (rs : List (Option (List UInt8 × List UInt8))) : Prop := ∃ A n c vs, v = .slice A n c ∧ Rd w w.heap.size A vs ∧ vs.length = n ∧ rs.length = n ∧ n ≤ c ∧ c ≤ maxLen ∧ ∀ (i : Nat) v r, vs[i]? = some v → rs[i]? = some r → Try w v r
theorem Tries.keep {w w' : World} {v : Value} {rs : List (Option (List UInt8 × List UInt8))} (h : Tries w v rs) (hb : Below w.heap.size w w') : Tries w' v rs := by
  obtain ⟨A, n, c, vs, e, h1, h2, h3, h4, h5, h6⟩ := h
  exact ⟨A, n, c, vs, e, (h1.below' hb (Nat.le_refl _)).more hb.size, h2, h3, h4, h5, fun i v r a b => (h6 i v r a b).keep hb⟩
theorem Tries.of3 {w : World} {v0 v1 v2 : Value} {r0 r1 r2 : Option (List UInt8 × List UInt8)} (h0 : Try w v0 r0) (h1 : Try w v1 r1) (h2 : Try w v2 r2) : Tries (w.alloc (.cells ([v0, v1, v2] : List Value).toArray 63)) (.slice (some ⟨w.heap.size, 0, none⟩) 3 3) [r0, r1, r2] := by
  have hb : Below w.heap.size w (w.alloc (.cells ([v0, v1, v2] : List Value).toArray 63)) := (Below.refl _ w).alloc (Nat.le_refl _) _
  refine ⟨_, _, _, [v0, v1, v2], rfl, (rd_new w [v0, v1, v2] _ (0, 0)).more (by rw [alloc_size]; exact Nat.le_refl _), rfl, rfl, Nat.le_refl _, by rw [maxLen_eq]; omega, fun i v r a b => ?_⟩
  match i, a, b with
  | 0, a, b => injection a with a; injection b with b; rw [← a, ← b]; exact h0.keep hb
  | 1, a, b => injection a with a; injection b with b; rw [← a, ← b]; exact h1.keep hb
  | 2, a, b => injection a with a; injection b with b; rw [← a, ← b]; exact h2.keep hb
  | i + 3, a, b => simp at a
def Free.kT (r : Option (List UInt8 × List UInt8)) : Free.SV := ⟨fun v w => ∃ v', v = v' ∧ Try w v' r, fun v w w' ⟨v', h1, h2⟩ g => ⟨v', h1, h2.keep g⟩⟩
def Free.kY (rs : List (Option (List UInt8 × List UInt8))) : Free.SV := ⟨fun v w => ∃ v', v = v' ∧ Tries w v' rs, fun v w w' ⟨v', h1, h2⟩ g => ⟨v', h1, h2.keep g⟩⟩
set_option maxHeartbeats 32000000 in
theorem two_any : ∀ (q : Nat) (Aa : Option Addr) (n ca : Nat) (f : Nat → Piece) (Ab : Option Addr) (cb : Nat) (g : Nat → Piece) (Ax : Option Addr) (cx : Nat) (Ay : Option Addr) (cy : Nat) (w : World), n ≤ q → 1 ≤ n → n ≤ 300 → RowsAt w Aa n f → (n ≤ ca ∧ ca ≤ maxLen) → RowsAt w Ab n g → (n ≤ cb ∧ cb ≤ maxLen) →
    (∀ i, i < n → (f i).n ≤ 1000) → (∀ i, i < n → (g i).n ≤ 1000) → Ss w Ax n cx (tleaves f n) → Ss w Ay n cy (tleaves g n) → Tabs w →
    Calls Tryd.prog 58 #[.slice Aa n ca, .slice Ab n cb, .slice Ax n cx, .slice Ay n cy] w (ResPost w.heap.size (Cl.tw q (raws f n) (raws g n)) w)
  | 0, Aa, n, ca, f, Ab, cb, g, Ax, cx, Ay, cy, w, hq, h1, hn, hra, hca, hrb, hcb, hsf, hsg, hx, hy, ht => by omega
  | q + 1, Aa, n, ca, f, Ab, cb, g, Ax, cx, Ay, cy, w, hq, h1, hn, hra, hca, hrb, hcb, hsf, hsg, hx, hy, ht => by
    by_cases he : n = 1
    · subst he
      have h := two1_any Aa ca f Ab cb g Ax 1 cx Ay 1 cy w hra hca.1 hca.2 hrb hcb.1 hcb.2 (hsf 0 (by omega)) (hsg 0 (by omega)) ht
      rw [show Cl.tw (q + 1) (raws f 1) (raws g 1) = Cl.btw (0 :: (f 0).l) (0 :: (g 0).l) by rw [Cl.tw, if_pos (by rw [raws_len]; omega)]; rfl]
      exact h
    have h2 : 2 ≤ n := by omega
    have hcam := hca.2
    have hcac := hca.1
    rw [maxLen_eq] at hcam
    have hb1 : ((n : Int) == 1) = false := beq_eq_false_iff_ne.2 (by omega)
    obtain ⟨k0, hk⟩ : ∃ k0, Tree.sp n = k0 := ⟨_, rfl⟩
    have kp := Tree.sp_pos h2
    have kl := Tree.sp_lt h2
    rw [hk] at kp kl
    have HSP := Lib.hid (show Tree.spz (n : Int) = k0 by rw [Tree.spz_in h2 (by omega), hk])
    obtain ⟨X, hX⟩ : ∃ X, Cl.topB (tleaves f n) = X := ⟨_, rfl⟩
    obtain ⟨Y, hY⟩ : ∃ X, Cl.topB (tleaves g n) = X := ⟨_, rfl⟩
    have HLN := Lib.hid (show X.length ≤ 1000000 ∧ Y.length ≤ 1000000 by
      have a := topB_le (l := tleaves f n) (by rw [raws_lv]; exact Cl.lv_all _)
      have b := topB_le (l := tleaves g n) (by rw [raws_lv]; exact Cl.lv_all _)
      rw [hX] at a
      rw [hY] at b
      omega)
    obtain ⟨r1, hr1⟩ : ∃ r, Cl.tw q (raws f k0) (raws g k0) = r := ⟨_, rfl⟩
    obtain ⟨r2, hr2⟩ : ∃ r, Cl.tw q (raws (fun i => f (k0 + i)) (n - k0)) (raws (fun i => g (k0 + i)) (n - k0)) = r := ⟨_, rfl⟩
    have HE := Lib.hid (show Cl.tw (q + 1) (raws f n) (raws g n) = firstOf [Cl.btw X Y, r1, r2] by
      rw [Cl.tw, if_neg (by rw [raws_len]; omega), raws_len, hk, raws_take f n k0 (by omega), raws_take g n k0 (by omega), raws_drop, raws_drop, ← raws_lv, ← raws_lv, hX, hY, hr1, hr2]
      unfold firstOf
      simp [List.foldr])
    obtain ⟨w5, bx⟩ := box5 w (.slice Aa n ca) (.slice Ab n cb) (.slice Ax n cx) (.slice Ay n cy)
    obtain ⟨w6, hw6⟩ : ∃ w6, w5.alloc (.cells #[.int .i64 (k0 : Int)] 3) = w6 := ⟨_, rfl⟩
    have hb56 : Below w5.heap.size w5 w6 := by rw [← hw6]; exact (Below.refl _ w5).alloc (Nat.le_refl _) _
    have hb6 : Below w.heap.size w w6 := bt bx.bel hb56
    have hsz6 := alloc_size w5 (.cells #[.int .i64 (k0 : Int)] 3)
    rw [hw6] at hsz6
    have hsz5 := bx.size
    have rk := row_new w5 #[.int .i64 (k0 : Int)] 3
    rw [hw6] at rk
    have ya := (bx.a.belowS hb56 (Nat.le_refl _)).cellQ 0 _ rfl
    have yb := (bx.b.belowS hb56 (Nat.le_refl _)).cellQ 0 _ rfl
    have yx := (bx.x.belowS hb56 (Nat.le_refl _)).cellQ 0 _ rfl
    have yy := (bx.y.belowS hb56 (Nat.le_refl _)).cellQ 0 _ rfl
    have yk := rk.cellQ 0 _ rfl
    have T1 := Lib.hid (show ∀ W, Below w6.heap.size w6 W → Try W (.func (.func 83) #[] #[.pointer (some ⟨w.heap.size, 0, none⟩), .pointer (some ⟨w5.heap.size, 0, none⟩), .pointer (some ⟨w.heap.size + 1, 0, none⟩), .pointer (some ⟨w.heap.size + 1 + 1, 0, none⟩), .pointer (some ⟨w.heap.size + 1 + 1 + 1, 0, none⟩)]) r1 from fun W hW => ⟨_, _, _, rfl, Tryd.func83, by kernel_rfl, by kernel_rfl, fun W2 hW2 => by
      have hb := bt hW hW2
      have hb0 := bt hb6 hb
      refine twoL_any (w.heap.size) (w5.heap.size) (w.heap.size + 1) (w.heap.size + 1 + 1) (w.heap.size + 1 + 1 + 1) n k0 Aa ca f Ab cb g Ax cx (tleaves f n) Ay cy (tleaves g n) r1 W2 ⟨by have := hb.size; omega, by have := hb.size; omega, by have := hb.size; omega, by have := hb.size; omega, by have := hb.size; omega⟩
        ((hb.cell (p := ⟨w.heap.size, 0, none⟩) (by show w.heap.size < _; omega)).trans ya) ((hb.cell (p := ⟨w5.heap.size, 0, none⟩) (by show w5.heap.size < _; omega)).trans yk) ((hb.cell (p := ⟨w.heap.size + 1, 0, none⟩) (by show w.heap.size + 1 < _; omega)).trans yb) ((hb.cell (p := ⟨w.heap.size + 1 + 1, 0, none⟩) (by show w.heap.size + 1 + 1 < _; omega)).trans yx) ((hb.cell (p := ⟨w.heap.size + 1 + 1 + 1, 0, none⟩) (by show w.heap.size + 1 + 1 + 1 < _; omega)).trans yy)
        (by omega) (hra.keep hb0) hca (hrb.keep hb0) hcb (hx.keep hb0) (hy.keep hb0) ?_
      intro Aa' ca' Ab' cb' Ax' cx' Ay' cy' W3 h3 h4 h5 h6 h7 h8 h9 h10 h11
      have := two_any q Aa' k0 ca' f Ab' cb' g Ax' cx' Ay' cy' W3 (by omega) (by omega) (by omega) h4 ⟨h5, h6⟩ h7 ⟨h8, h9⟩ (fun i hi => hsf _ (by omega)) (fun i hi => hsg _ (by omega)) (by rw [raws_lv, ← raws_take f n k0 (by omega), ← Cl.lv_take, ← raws_lv]; exact h10) (by rw [raws_lv, ← raws_take g n k0 (by omega), ← Cl.lv_take, ← raws_lv]; exact h11) (ht.below (bt hb0 h3))
      rw [hr1] at this
      exact this⟩)
    have T2 := Lib.hid (show ∀ W, Below w6.heap.size w6 W → Try W (.func (.func 84) #[] #[.pointer (some ⟨w.heap.size, 0, none⟩), .pointer (some ⟨w5.heap.size, 0, none⟩), .pointer (some ⟨w.heap.size + 1, 0, none⟩), .pointer (some ⟨w.heap.size + 1 + 1, 0, none⟩), .pointer (some ⟨w.heap.size + 1 + 1 + 1, 0, none⟩)]) r2 from fun W hW => ⟨_, _, _, rfl, Tryd.func84, by kernel_rfl, by kernel_rfl, fun W2 hW2 => by
      have hb := bt hW hW2
      have hb0 := bt hb6 hb
      refine twoR_any (w.heap.size) (w5.heap.size) (w.heap.size + 1) (w.heap.size + 1 + 1) (w.heap.size + 1 + 1 + 1) n k0 Aa ca f Ab cb g Ax cx (tleaves f n) Ay cy (tleaves g n) r2 W2 ⟨by have := hb.size; omega, by have := hb.size; omega, by have := hb.size; omega, by have := hb.size; omega, by have := hb.size; omega⟩
        ((hb.cell (p := ⟨w.heap.size, 0, none⟩) (by show w.heap.size < _; omega)).trans ya) ((hb.cell (p := ⟨w5.heap.size, 0, none⟩) (by show w5.heap.size < _; omega)).trans yk) ((hb.cell (p := ⟨w.heap.size + 1, 0, none⟩) (by show w.heap.size + 1 < _; omega)).trans yb) ((hb.cell (p := ⟨w.heap.size + 1 + 1, 0, none⟩) (by show w.heap.size + 1 + 1 < _; omega)).trans yx) ((hb.cell (p := ⟨w.heap.size + 1 + 1 + 1, 0, none⟩) (by show w.heap.size + 1 + 1 + 1 < _; omega)).trans yy)
        (by omega) (hra.keep hb0) hca (hrb.keep hb0) hcb (hx.keep hb0) (hy.keep hb0) ?_
      intro Aa' ca' Ab' cb' Ax' cx' Ay' cy' W3 h3 h4 h5 h6 h7 h8 h9 h10 h11
      have := two_any q Aa' (n - k0) ca' (fun i => f (k0 + i)) Ab' cb' (fun i => g (k0 + i)) Ax' cx' Ay' cy' W3 (by omega) (by omega) (by omega) h4 ⟨h5, h6⟩ h7 ⟨h8, h9⟩ (fun i hi => hsf _ (by omega)) (fun i hi => hsg _ (by omega)) (by rw [raws_lv, ← raws_drop f n k0, ← Cl.lv_drop, ← raws_lv]; exact h10) (by rw [raws_lv, ← raws_drop g n k0, ← Cl.lv_drop, ← raws_lv]; exact h11) (ht.below (bt hb0 h3))
      rw [hr2] at this
      exact this⟩)
    have CX := Lib.hid (show ∀ W, Below w6.heap.size w6 W → W.cell? ⟨w.heap.size + 1 + 1, 0, none⟩ = some (.slice Ax n cx) from fun W hW => (hW.cell (p := ⟨w.heap.size + 1 + 1, 0, none⟩) (by show w.heap.size + 1 + 1 < _; omega)).trans yx)
    have CY := Lib.hid (show ∀ W, Below w6.heap.size w6 W → W.cell? ⟨w.heap.size + 1 + 1 + 1, 0, none⟩ = some (.slice Ay n cy) from fun W hW => (hW.cell (p := ⟨w.heap.size + 1 + 1 + 1, 0, none⟩) (by show w.heap.size + 1 + 1 + 1 < _; omega)).trans yy)
    have TX := Lib.hid (show ∀ W, Below w6.heap.size w6 W → Calls Tryd.prog 35 #[.slice Ax n cx] W (Ret8 W.heap.size X W) from fun W hW => by rw [← hX]; exact ctop_any Ax n cx _ W (hx.keep (bt hb6 hW)) (by rw [raws_lv]; exact Cl.lv_all _) h2 (by omega) (ht.below (bt hb6 hW)))
    have TY := Lib.hid (show ∀ W, Below w6.heap.size w6 W → Calls Tryd.prog 35 #[.slice Ay n cy] W (Ret8 W.heap.size Y W) from fun W hW => by rw [← hY]; exact ctop_any Ay n cy _ W (hy.keep (bt hb6 hW)) (by rw [raws_lv]; exact Cl.lv_all _) h2 (by omega) (ht.below (bt hb6 hW)))
    unfold Ret8 at TX TY
    have HT := Lib.hid ht
    have HB6 := Lib.hid hb6
    have HW5 := Lib.hid bx.eq
    have HW6 := Lib.hid hw6
    have HROW0 := Lib.hid (bx.res.belowS hb56 (Nat.le_refl _))
    have HL := Lib.hid (show w.heap.size + 1 + 1 + 1 + 1 < w6.heap.size ∧ w.heap.size ≤ w6.heap.size by omega)
    have y0 := bx.a.cellQ 0 _ rfl
    clear hb56 hb6 hsz6 hsz5 rk ya yb yx yy yk bx hw6 hra hrb hca hcb hsf hsg hx hy ht hX hY hr1 hr2 hk
    go_enter Tryd.func58, Tryd.ntmps58
    go_upto_region 1 with fail
    rw [HW5.out]
    go_wp2_with fail
    refine (split_any (n : Int) w5 (by omega) (by omega)).mono ?_
    rintro e wz ⟨rfl, rfl⟩
    rw [HSP.out]
    go_wp2_with fail
    rw [HW6.out]
    clear y0
    refine Free.wp_free_l 11 (fun W => Below w6.heap.size w6 W) [Free.kc (.slice Ax n cx), Free.kB (w6.heap.size) (X), Free.kc (.slice Ay n cy), Free.kB (w6.heap.size) (Y), Free.kT (Cl.btw X Y), Free.kc (.func (.func 83) #[] #[.pointer (some ⟨w.heap.size, 0, none⟩), .pointer (some ⟨w5.heap.size, 0, none⟩), .pointer (some ⟨w.heap.size + 1, 0, none⟩), .pointer (some ⟨w.heap.size + 1 + 1, 0, none⟩), .pointer (some ⟨w.heap.size + 1 + 1 + 1, 0, none⟩)]), Free.kc (.func (.func 84) #[] #[.pointer (some ⟨w.heap.size, 0, none⟩), .pointer (some ⟨w5.heap.size, 0, none⟩), .pointer (some ⟨w.heap.size + 1, 0, none⟩), .pointer (some ⟨w.heap.size + 1 + 1, 0, none⟩), .pointer (some ⟨w.heap.size + 1 + 1 + 1, 0, none⟩)]), Free.kY ([Cl.btw X Y, r1, r2]), Free.kR (w6.heap.size) (firstOf [Cl.btw X Y, r1, r2]), Free.kG (w6.heap.size) (firstOf [Cl.btw X Y, r1, r2]), Free.kc (.bool (firstOf [Cl.btw X Y, r1, r2]).isSome)] (by kernel_rfl) (by kernel_rfl) (by decide) (Below.refl _ _).drew (fun w w' h g => bt h g) ?_ ?_
    · refine Free.forall_succ (Free.forall_succ (Free.forall_succ (Free.forall_succ (Free.forall_succ (Free.forall_succ (Free.forall_succ (Free.forall_succ (Free.forall_succ (Free.forall_succ (Free.forall_succ (Free.forall_zero) ?_) ?_) ?_) ?_) ?_) ?_) ?_) ?_) ?_) ?_) ?_
      · exact Free.ob_plain _ rfl rfl fun vals wq hC hd => (by exact Free.d_load rfl (show _ = (Value.pointer (some ⟨w.heap.size + 1 + 1, 0, none⟩)) from by kernel_rfl) (by have hcc := CX.out wq hC; go_simp) rfl)
      · exact Free.ob_plain _ rfl rfl fun vals wq hC hd => (by exact Free.d_call Tryd.func35 (by kernel_rfl) (by kernel_rfl) rfl rfl (Free.arg1 (Eq.trans (b := vals 0) (by kernel_rfl) (hd 0 (by kernel_rfl)))) ((TX.out wq hC).mono fun e w2 h => (by obtain ⟨A1, n1, c1, he, ho, hb⟩ := h; exact ⟨_, he, ⟨A1, n1, c1, rfl, ho.base hC.size⟩, hb⟩)))
      · exact Free.ob_plain _ rfl rfl fun vals wq hC hd => (by exact Free.d_load rfl (show _ = (Value.pointer (some ⟨w.heap.size + 1 + 1 + 1, 0, none⟩)) from by kernel_rfl) (by have hcc := CY.out wq hC; go_simp) rfl)
      · exact Free.ob_plain _ rfl rfl fun vals wq hC hd => (by exact Free.d_call Tryd.func35 (by kernel_rfl) (by kernel_rfl) rfl rfl (Free.arg1 (Eq.trans (b := vals 2) (by kernel_rfl) (hd 2 (by kernel_rfl)))) ((TY.out wq hC).mono fun e w2 h => (by obtain ⟨A1, n1, c1, he, ho, hb⟩ := h; exact ⟨_, he, ⟨A1, n1, c1, rfl, ho.base hC.size⟩, hb⟩)))
      · exact Free.ob_plain _ rfl rfl fun vals wq hC hd => (by obtain ⟨A1, n1, k1, e1, ow1⟩ := hd 1 (by kernel_rfl); obtain ⟨A3, n3, k3, e3, ow3⟩ := hd 3 (by kernel_rfl); exact Free.d_call Tryd.func37 (by kernel_rfl) (by kernel_rfl) rfl rfl (Free.arg2 (Eq.trans (b := vals 1) (by kernel_rfl) e1) (Eq.trans (b := vals 3) (by kernel_rfl) e3)) ((pair_any A1 n1 k1 A3 n3 k3 X Y wq ow1.bs (by rw [← ow1.bs.len]; exact HLN.out.1) ow3.bs (by rw [← ow3.bs.len]; exact HLN.out.2) (HT.out.below (bt HB6.out hC))).mono fun e w2 h => (by obtain ⟨v, he, h1, hb⟩ := h; exact ⟨_, he, ⟨v, rfl, h1⟩, hb⟩)))
      · exact Free.ob_plain _ rfl rfl fun vals wq hC hd => (by exact d_makeFn rfl (caps5 (show _ = (Value.pointer (some ⟨w.heap.size, 0, none⟩)) from by kernel_rfl) (show _ = (Value.pointer (some ⟨w5.heap.size, 0, none⟩)) from by kernel_rfl) (show _ = (Value.pointer (some ⟨w.heap.size + 1, 0, none⟩)) from by kernel_rfl) (show _ = (Value.pointer (some ⟨w.heap.size + 1 + 1, 0, none⟩)) from by kernel_rfl) (show _ = (Value.pointer (some ⟨w.heap.size + 1 + 1 + 1, 0, none⟩)) from by kernel_rfl)) rfl)
      · exact Free.ob_plain _ rfl rfl fun vals wq hC hd => (by exact d_makeFn rfl (caps5 (show _ = (Value.pointer (some ⟨w.heap.size, 0, none⟩)) from by kernel_rfl) (show _ = (Value.pointer (some ⟨w5.heap.size, 0, none⟩)) from by kernel_rfl) (show _ = (Value.pointer (some ⟨w.heap.size + 1, 0, none⟩)) from by kernel_rfl) (show _ = (Value.pointer (some ⟨w.heap.size + 1 + 1, 0, none⟩)) from by kernel_rfl) (show _ = (Value.pointer (some ⟨w.heap.size + 1 + 1 + 1, 0, none⟩)) from by kernel_rfl)) rfl)
      · exact Free.ob_plain _ rfl rfl fun vals wq hC hd => (by obtain ⟨v4, e4, pd4⟩ := hd 4 (by kernel_rfl); exact (by obtain ⟨f4, caps4, fn4, hv4, q1, q2, q3, q4⟩ := pd4.ex; subst hv4; exact Free.d_build (w' := wq.alloc (.cells ([.func (.func f4) #[] caps4, .func (.func 83) #[] #[.pointer (some ⟨w.heap.size, 0, none⟩), .pointer (some ⟨w5.heap.size, 0, none⟩), .pointer (some ⟨w.heap.size + 1, 0, none⟩), .pointer (some ⟨w.heap.size + 1 + 1, 0, none⟩), .pointer (some ⟨w.heap.size + 1 + 1 + 1, 0, none⟩)], .func (.func 84) #[] #[.pointer (some ⟨w.heap.size, 0, none⟩), .pointer (some ⟨w5.heap.size, 0, none⟩), .pointer (some ⟨w.heap.size + 1, 0, none⟩), .pointer (some ⟨w.heap.size + 1 + 1, 0, none⟩), .pointer (some ⟨w.heap.size + 1 + 1 + 1, 0, none⟩)]] : List Value).toArray 63)) rfl (parts3 (Eq.trans (b := vals 4) (by kernel_rfl) e4) (Eq.trans (b := vals 5) (by kernel_rfl) (hd 5 (by kernel_rfl))) (Eq.trans (b := vals 6) (by kernel_rfl) (hd 6 (by kernel_rfl)))) (by go_simp) ((Below.refl _ _).alloc (Nat.le_refl _) _) ⟨_, rfl, Tries.of3 pd4 (T1.out wq hC) (T2.out wq hC)⟩))
      · exact Free.ob_plain _ rfl rfl fun vals wq hC hd => (by obtain ⟨v7, e7, pd7⟩ := hd 7 (by kernel_rfl); exact (by obtain ⟨Aq, nq, cq, vs, hvq, g1, g2, g3, g4, g5, g6⟩ := pd7; exact Free.d_call Tryd.func41 (by kernel_rfl) (by kernel_rfl) rfl rfl (Free.arg1 (Eq.trans (Eq.trans (b := vals 7) (by kernel_rfl) e7) hvq)) ((first_any Aq nq cq vs _ wq g1 g2 g3 g4 g5 g6).mono fun e w2 h => (by obtain ⟨A7, n7, c7, B7, m7, k7, he, h1, h2, hb⟩ := h; exact ⟨_, he, ⟨_, rfl, ⟨A7, n7, c7, B7, m7, k7, rfl, h1.base hC.size, h2.base hC.size⟩⟩, hb⟩))))
      · exact Free.ob_plain _ rfl rfl fun vals wq hC hd => (by obtain ⟨v8, e8, pd8⟩ := hd 8 (by kernel_rfl); exact (by obtain ⟨A7, n7, c7, B7, m7, k7, he7, h1, h2⟩ := pd8; exact Free.d_extract rfl (Eq.trans (Eq.trans (b := vals 8) (by kernel_rfl) e8) he7) (by first | rfl | (go_simp; done)) ⟨_, rfl, ⟨A7, n7, c7, B7, m7, k7, rfl, h1, h2⟩⟩))
      · exact Free.ob_plain _ rfl rfl fun vals wq hC hd => (by obtain ⟨v8, e8, pd8⟩ := hd 8 (by kernel_rfl); exact (by obtain ⟨A7, n7, c7, B7, m7, k7, he7, h1, h2⟩ := pd8; exact Free.d_extract rfl (Eq.trans (Eq.trans (b := vals 8) (by kernel_rfl) e8) he7) (by first | rfl | (go_simp; done)) rfl))
    · intro vals wq hC hd
      have e0 : vals 0 = (.slice Ax n cx) := hd 0 (by decide)
      obtain ⟨A1, n1, k1, e1, ow1⟩ := hd 1 (by decide)
      have e2 : vals 2 = (.slice Ay n cy) := hd 2 (by decide)
      obtain ⟨A3, n3, k3, e3, ow3⟩ := hd 3 (by decide)
      obtain ⟨v4, e4, pd4⟩ := hd 4 (by decide)
      have e5 : vals 5 = (.func (.func 83) #[] #[.pointer (some ⟨w.heap.size, 0, none⟩), .pointer (some ⟨w5.heap.size, 0, none⟩), .pointer (some ⟨w.heap.size + 1, 0, none⟩), .pointer (some ⟨w.heap.size + 1 + 1, 0, none⟩), .pointer (some ⟨w.heap.size + 1 + 1 + 1, 0, none⟩)]) := hd 5 (by decide)
      have e6 : vals 6 = (.func (.func 84) #[] #[.pointer (some ⟨w.heap.size, 0, none⟩), .pointer (some ⟨w5.heap.size, 0, none⟩), .pointer (some ⟨w.heap.size + 1, 0, none⟩), .pointer (some ⟨w.heap.size + 1 + 1, 0, none⟩), .pointer (some ⟨w.heap.size + 1 + 1 + 1, 0, none⟩)]) := hd 6 (by decide)
      obtain ⟨v7, e7, pd7⟩ := hd 7 (by decide)
      obtain ⟨v8, e8, pd8⟩ := hd 8 (by decide)
      obtain ⟨v9, e9, pd9⟩ := hd 9 (by decide)
      have e10 : vals 10 = (.bool (firstOf [Cl.btw X Y, r1, r2]).isSome) := hd 10 (by decide)
      simp only [Free.frameOf, List.range, List.range.loop, List.foldl, Free.dstOf, List.getElem?_toArray, List.getElem?_cons_zero, List.getElem?_cons_succ, Option.bind_some, Act.put, List.setIfInBounds_toArray, List.set_cons_zero, List.set_cons_succ, e0, e1, e2, e3, e4, e5, e6, e7, e8, e9, e10]
      clear hd e0 e1 e2 e3 e4 e5 e6 e7 e8 e9 e10
      obtain ⟨A7, n7, c7, B7, m7, k7, rfl, hf1, hf2⟩ := pd9
      have HB4 := Lib.hid (bt HB6.out hC)
      have hres := Row.belowS HROW0.out hC (Nat.le_refl _)
      have x0 := hres.cellQ 0 _ rfl
      have x1 := hres.cellQ 1 _ rfl
      have f0 := hres.frozen 0
      have f1 := hres.frozen 1
      have HROW := Lib.hid (show ∀ u v, Row (setFrom (w.heap.size + 1 + 1 + 1 + 1) wq 0 [u, v]) (w.heap.size + 1 + 1 + 1 + 1) #[u, v] 29 from fun u v => hres.all [u, v] rfl)
      have HF := Lib.hid (And.intro hf1 hf2)
      clear hres hf1 hf2 hC pd8 pd7 pd4 ow1 ow3
      go_wp2
      generalize hwd : World.setCell (World.setCell wq _ _) _ _ = wd
      have hsf : setFrom (w.heap.size + 1 + 1 + 1 + 1) wq 0 [.slice A7 n7 c7, .slice B7 m7 k7] = wd := by rw [← hwd]; rfl
      have s0 : wd.cell? ⟨(w.heap.size + 1 + 1 + 1 + 1), 0, none⟩ = some (.slice A7 n7 c7) := by rw [← hsf]; exact (HROW.out _ _).cellQ 0 _ rfl
      have s1 : wd.cell? ⟨(w.heap.size + 1 + 1 + 1 + 1), 1, none⟩ = some (.slice B7 m7 k7) := by rw [← hsf]; exact (HROW.out _ _).cellQ 1 _ rfl
      refine bodyPost_ret (v := .tuple #[.agg #[.slice A7 n7 c7, .slice B7 m7 k7], .bool (firstOf [Cl.btw X Y, r1, r2]).isSome]) (by simp [results, Tryd.results58, go_sem, s0, s1]) rfl ?_
      rw [HE.out]
      exact ⟨A7, n7, c7, B7, m7, k7, rfl, by rw [← hsf]; exact (HF.out.1.set HL.out.1 _ 0).base HL.out.2, by rw [← hsf]; exact (HF.out.2.set HL.out.1 _ 0).base HL.out.2, by rw [← hsf]; exact below_setFrom (by omega) _ 0 HB4.out⟩
end Go.Proofs.YtlcdpbpbfofmmaaDoor

namespace Go.Proofs.YtlcdpbpbfofmmaaDoor
set_option maxRecDepth 100000
set_option linter.unusedVariables false
open Go.RowKit
set_option maxHeartbeats 8000000 in
theorem cTwo_no (A : Option Addr) (n c : Nat) (B : Option Addr) (m k : Nat) (w : World) (hc : n ≤ c) (hm : c ≤ maxLen) (hk : m ≤ k) (hk2 : k ≤ maxLen) (hbad : n ≠ m ∨ n = 0) :
    Calls Tryd.prog 22 #[.slice A n c, .slice B m k] w (ResPost w.heap.size none w) := by
  rw [maxLen_eq] at hm hk2
  have hrow := row_new w #[.slice none 0 0, .slice none 0 0] 29
  have HB0 := Lib.hid (show Below w.heap.size w (w.alloc (.cells #[.slice none 0 0, .slice none 0 0] 29)) from (Below.refl _ w).alloc (Nat.le_refl _) _)
  have x0 := hrow.cellQ 0 _ rfl
  have x1 := hrow.cellQ 1 _ rfl
  have f0 := hrow.frozen 0
  have f1 := hrow.frozen 1
  have HROW := Lib.hid (show ∀ u v, Row (setFrom w.heap.size (w.alloc (.cells #[.slice none 0 0, .slice none 0 0] 29)) 0 [u, v]) w.heap.size #[u, v] 29 from fun u v => hrow.all [u, v] rfl)
  clear hrow
  by_cases h0 : n = m
  · obtain rfl : n = 0 := by omega
    subst h0
    clear hbad
    go_enter Tryd.func22, Tryd.ntmps22
    go_wp2
    refine bodyPost_ret (v := .tuple #[.agg #[.slice none 0 0, .slice none 0 0], .bool false]) (by simp [results, Tryd.results22, go_sem, x0, x1]) rfl ?_
    exact ⟨none, 0, 0, none, 0, 0, rfl, Fr.nil _ _, Fr.nil _ _, HB0.out⟩
  · have h1 : ((n : Int) == (m : Int)) = false := beq_eq_false_iff_ne.2 (by omega)
    have h2 : ((n : Int) != (m : Int)) = true := by rw [bne, h1]; rfl
    clear hbad
    go_enter Tryd.func22, Tryd.ntmps22
    go_wp2
    refine bodyPost_ret (v := .tuple #[.agg #[.slice none 0 0, .slice none 0 0], .bool false]) (by simp [results, Tryd.results22, go_sem, x0, x1]) rfl ?_
    exact ⟨none, 0, 0, none, 0, 0, rfl, Fr.nil _ _, Fr.nil _ _, HB0.out⟩
set_option maxHeartbeats 16000000 in
theorem cTwo_yes (A : Option Addr) (n c : Nat) (f : Nat → Piece) (B : Option Addr) (k : Nat) (g : Nat → Piece) (w : World) (h1 : 1 ≤ n) (hn : n ≤ 300) (hra : RowsAt w A n f) (hca : n ≤ c ∧ c ≤ maxLen) (hrb : RowsAt w B n g) (hcb : n ≤ k ∧ k ≤ maxLen)
    (hsf : ∀ i, i < n → (f i).n ≤ 1000) (hsg : ∀ i, i < n → (g i).n ≤ 1000) (ht : Tabs w) :
    Calls Tryd.prog 22 #[.slice A n c, .slice B n k] w (ResPost w.heap.size (Cl.two (raws f n) (raws g n)) w) := by
  obtain ⟨r, hr⟩ : ∃ r, Cl.two (raws f n) (raws g n) = r := ⟨_, rfl⟩
  rw [hr]
  have hr2 : Cl.tw n (raws f n) (raws g n) = r := by rw [← hr]; unfold Cl.two; rw [raws_len]
  have HROW0 := Lib.hid (row_new w #[.slice none 0 0, .slice none 0 0] 29)
  have hb0 : Below w.heap.size w (w.alloc (.cells #[.slice none 0 0, .slice none 0 0] 29)) := (Below.refl _ w).alloc (Nat.le_refl _) _
  have HB0 := Lib.hid hb0
  have hlt0 : w.heap.size < (w.alloc (.cells #[.slice none 0 0, .slice none 0 0] 29)).heap.size := by rw [alloc_size]; omega
  have HLT := Lib.hid hlt0
  have CA := Lib.hid (show ∀ W, Below w.heap.size w W → Calls Tryd.prog 33 #[.slice A n c] W (OwnSPost W.heap.size (tleaves f n) W) from fun W hW => leaves_any A n c f W (hra.keep hW) hca.1 hca.2 (by omega) (fun i hi => by have := hsf i hi; omega) (ht.below hW))
  have CB := Lib.hid (show ∀ W, Below w.heap.size w W → Calls Tryd.prog 33 #[.slice B n k] W (OwnSPost W.heap.size (tleaves g n) W) from fun W hW => leaves_any B n k g W (hrb.keep hW) hcb.1 hcb.2 (by omega) (fun i hi => by have := hsg i hi; omega) (ht.below hW))
  unfold OwnSPost at CA CB
  have CT := Lib.hid (show ∀ (W : World) (Ax : Option Addr) (nx cx : Nat) (Ay : Option Addr) (ny cy : Nat), Below w.heap.size w W → Ss W Ax nx cx (tleaves f n) → Ss W Ay ny cy (tleaves g n) → Calls Tryd.prog 58 #[.slice A n c, .slice B n k, .slice Ax nx cx, .slice Ay ny cy] W (ResPost W.heap.size r W) from fun W Ax nx cx Ay ny cy hW h3 h4 => by
    have e1 : nx = n := by rw [← h3.len, raws_lv]; simp [Cl.lv, raws]
    have e2 : ny = n := by rw [← h4.len, raws_lv]; simp [Cl.lv, raws]
    subst e1
    subst e2
    have := two_any ny A ny c f B k g Ax cx Ay cy W (Nat.le_refl _) h1 hn (hra.keep hW) hca (hrb.keep hW) hcb hsf hsg h3 h4 (ht.below hW)
    rw [hr2] at this
    exact this)
  have g1 : ((n : Int) == 0) = false := beq_eq_false_iff_ne.2 (by omega)
  have hc1 := hca.1
  have hm1 := hca.2
  have hc2 := hcb.1
  have hm2 := hcb.2
  rw [maxLen_eq] at hm1 hm2
  clear hr hr2 hb0 hlt0 hra hca hrb hcb hsf hsg ht
  go_enter Tryd.func22, Tryd.ntmps22
  go_wp2_with fail
  refine (CA.out _ HB0.out).mono ?_
  rintro e w1 ⟨A1, n1, c1, rfl, ho1, hb1⟩
  have HB1 := Lib.hid (bt HB0.out hb1)
  have HR1 := Lib.hid (HROW0.out.belowS hb1 (Nat.le_refl _))
  have HZ1 := Lib.hid hb1.size
  have HO1 := Lib.hid ho1
  clear hb1 ho1
  go_wp2_with fail
  refine (CB.out _ HB1.out).mono ?_
  rintro e w2 ⟨A2, n2, c2, rfl, ho2, hb2⟩
  have HB2 := Lib.hid (bt HB1.out hb2)
  have HR2 := Lib.hid (HR1.out.belowS hb2 (Nat.le_refl _))
  have HO2 := Lib.hid (And.intro (HO1.out.keep hb2) ho2)
  have HZ2 := Lib.hid (Nat.le_trans HZ1.out hb2.size)
  clear hb2 ho2
  go_wp2_with fail
  refine (CT.out w2 A1 n1 c1 A2 n2 c2 HB2.out HO2.out.1.ss HO2.out.2.ss).mono ?_
  rintro e w3 ⟨A7, n7, c7, B7, m7, k7, rfl, hf1, hf2, hb3⟩
  have HB3 := Lib.hid (bt HB2.out hb3)
  have hres := HR2.out.belowS hb3 (Nat.le_refl _)
  have x0 := hres.cellQ 0 _ rfl
  have x1 := hres.cellQ 1 _ rfl
  have f0 := hres.frozen 0
  have f1 := hres.frozen 1
  have HROW := Lib.hid (show ∀ u v, Row (setFrom w.heap.size w3 0 [u, v]) w.heap.size #[u, v] 29 from fun u v => hres.all [u, v] rfl)
  have HF := Lib.hid (And.intro hf1 hf2)
  have HLT2 := Lib.hid (Nat.lt_of_lt_of_le HLT.out HZ2.out)
  clear hres hf1 hf2 hb3
  go_wp2
  generalize hwd : World.setCell (World.setCell w3 _ _) _ _ = wd
  have hsf : setFrom w.heap.size w3 0 [.slice A7 n7 c7, .slice B7 m7 k7] = wd := by rw [← hwd]; rfl
  have r0 : wd.cell? ⟨w.heap.size, 0, none⟩ = some (.slice A7 n7 c7) := by rw [← hsf]; exact (HROW.out _ _).cellQ 0 _ rfl
  have r1 : wd.cell? ⟨w.heap.size, 1, none⟩ = some (.slice B7 m7 k7) := by rw [← hsf]; exact (HROW.out _ _).cellQ 1 _ rfl
  refine bodyPost_ret (v := .tuple #[.agg #[.slice A7 n7 c7, .slice B7 m7 k7], .bool r.isSome]) (by simp [results, Tryd.results22, go_sem, r0, r1]) rfl ?_
  exact ⟨A7, n7, c7, B7, m7, k7, rfl, by rw [← hsf]; exact (HF.out.1.set HLT2.out _ 0).base (Nat.le_of_lt HLT2.out), by rw [← hsf]; exact (HF.out.2.set HLT2.out _ 0).base (Nat.le_of_lt HLT2.out), by rw [← hsf]; exact below_setFrom (Nat.le_refl _) _ 0 HB3.out⟩
end Go.Proofs.YtlcdpbpbfofmmaaDoor

namespace Go.Proofs.YtlcdpbpbfofmmaaDoor
set_option maxRecDepth 100000
set_option linter.unusedVariables false
open Go.RowKit
theorem rows_two8 (w : World) : RowsAt (((w.alloc (.cells #[.int .u8 1] 5)).alloc (.cells #[.int .u8 2] 5)).alloc (.cells #[.slice (some ⟨w.heap.size, 0, none⟩) 1 1, .slice (some ⟨w.heap.size + 1, 0, none⟩) 1 1] 23)) (some ⟨w.heap.size + 1 + 1, 0, none⟩) 2 (pieceAt3 w.heap.size) := fun _ => by
  have s1 : (w.alloc (.cells #[.int .u8 1] 5)).heap.size = w.heap.size + 1 := by unfold World.alloc; simp
  obtain ⟨w1, h1⟩ : ∃ w1, w.alloc (.cells #[.int .u8 1] 5) = w1 := ⟨_, rfl⟩
  have p0 : Rd w1 (w.heap.size + 1) (some ⟨w.heap.size, 0, none⟩) [bv 1] := by rw [← h1]; exact rd_new w [bv 1] 5 (0, 0)
  rw [h1] at s1 ⊢
  have s2 : (w1.alloc (.cells #[.int .u8 2] 5)).heap.size = w1.heap.size + 1 := by unfold World.alloc; simp
  obtain ⟨w2, h2⟩ : ∃ w2, w1.alloc (.cells #[.int .u8 2] 5) = w2 := ⟨_, rfl⟩
  have p1 : Rd w2 (w1.heap.size + 1) (some ⟨w1.heap.size, 0, none⟩) [bv 2] := by rw [← h2]; exact rd_new w1 [bv 2] 5 (0, 0)
  replace p0 : Rd w2 (w.heap.size + 1) (some ⟨w.heap.size, 0, none⟩) [bv 1] := by rw [← h2]; exact p0.alloc (by omega) _
  rw [h2] at s2 ⊢
  have e1 : w1.heap.size = w.heap.size + 1 := s1
  have e2 : w2.heap.size = w.heap.size + 1 + 1 := by omega
  rw [e1] at p1
  refine ⟨w.heap.size + 1 + 1, 0, rfl, by unfold World.alloc; simp [e2], fun i hi => ?_⟩
  have hrow := row_new w2 #[.slice (some ⟨w.heap.size, 0, none⟩) 1 1, .slice (some ⟨w.heap.size + 1, 0, none⟩) 1 1] 23
  rw [e2] at hrow
  rcases (show i = 0 ∨ i = 1 by omega) with rfl | rfl
  · exact ⟨hrow.cellQ 0 _ rfl, ⟨(p0.alloc (by omega) _).more (by unfold World.alloc; simp; omega), rfl, Nat.le_refl _, (show 1 ≤ maxLen by decide)⟩⟩
  · exact ⟨hrow.cellQ 1 _ rfl, ⟨(p1.alloc (by omega) _).more (by unfold World.alloc; simp; omega), rfl, Nat.le_refl _, (show 1 ≤ maxLen by decide)⟩⟩
set_option maxHeartbeats 16000000 in
theorem knows8_any (w : World) (ht : Tabs w) : Calls Tryd.prog 11 #[] w (Yes w) := by
  have hb0 : Below w.heap.size w (((w.alloc (.cells #[.int .u8 1] 5)).alloc (.cells #[.int .u8 2] 5)).alloc (.cells #[.slice (some ⟨w.heap.size, 0, none⟩) 1 1, .slice (some ⟨w.heap.size + 1, 0, none⟩) 1 1] 23)) := (((Below.refl _ w).alloc (Nat.le_refl _) _).alloc (by simp only [alloc_size]; omega) _).alloc (by simp only [alloc_size]; omega) _
  have hrows := rows_two8 w
  obtain ⟨w3, hw3⟩ : ∃ w3, (((w.alloc (.cells #[.int .u8 1] 5)).alloc (.cells #[.int .u8 2] 5)).alloc (.cells #[.slice (some ⟨w.heap.size, 0, none⟩) 1 1, .slice (some ⟨w.heap.size + 1, 0, none⟩) 1 1] 23)) = w3 := ⟨_, rfl⟩
  have HW3 := Lib.hid hw3
  rw [hw3] at hb0 hrows
  have HB0 := Lib.hid hb0
  have HRW := Lib.hid (show ∀ W, Below w3.heap.size w3 W → RowsAt W (some ⟨w.heap.size + 1 + 1, 0, none⟩) 2 (pieceAt3 w.heap.size) from fun W hW => hrows.keep hW)
  have hsm : ∀ i, i < 2 → (pieceAt3 w.heap.size i).n ≤ 1000 := fun i hi => by unfold pieceAt3; simp
  have CL := Lib.hid (show ∀ W, Below w3.heap.size w3 W → Calls Tryd.prog 33 #[.slice (some ⟨w.heap.size + 1 + 1, 0, none⟩) 2 2] W (OwnSPost W.heap.size (tleaves (pieceAt3 w.heap.size) 2) W) from fun W hW => leaves_any _ 2 2 _ W (hrows.keep hW) (Nat.le_refl _) (by decide) (by omega) (fun i hi => by have := hsm i hi; omega) (ht.below (bt hb0 hW)))
  unfold OwnSPost at CL
  have hrawl : (raws (pieceAt3 w.heap.size) 2).length = 2 := raws_len _ _
  have hpl : (tpath (tleaves (pieceAt3 w.heap.size) 2) 0).length = (Tree.sides 0 2).length := by
    have := Tree.path_len tnd tnil 2 (tleaves (pieceAt3 w.heap.size) 2) 0 (by simp [tleaves]) (by simp [tleaves])
    rw [show (tleaves (pieceAt3 w.heap.size) 2).length = 2 by simp [tleaves]] at this
    exact this
  have hs1 : (Tree.sides 0 2).length = 1 := by
    have h2 : Tree.sp 2 = 1 := Tree.sp_of (t := 0) (by decide) (by decide)
    rw [Tree.sides_left (by omega) (by rw [h2]; omega), h2, Tree.sides_small (by omega)]; rfl
  have h32 : ∀ s ∈ tleaves (pieceAt3 w.heap.size) 2, s.length = 32 := by rw [raws_lv]; exact Cl.lv_all _
  have hp32 : ∀ s ∈ tpath (tleaves (pieceAt3 w.heap.size) 2) 0, s.length = 32 := Tree.path_all tnd tnil (fun s => s.length = 32) (fun l hl => troot_len hl) 2 _ 0 (by simp [tleaves]) h32
  have CP := Lib.hid (show ∀ (A : Option Addr) (n c : Nat) (W : World), Below w3.heap.size w3 W → OwnS W w3.heap.size A n c (tleaves (pieceAt3 w.heap.size) 2) → Calls Tryd.prog 21 #[.slice A n c, .int .i64 0] W (PathPost (tpath (tleaves (pieceAt3 w.heap.size) 2) 0) W) from fun A n c W hW ho => by
    have e := ho.len
    simp [tleaves] at e
    exact path_any A n c _ 0 W ho.ss h32 (by omega) (by omega) (ht.below (bt hb0 hW)))
  unfold PathPost at CP
  have CF := Lib.hid (show ∀ (A : Option Addr) (n c : Nat) (Ax : Option Addr) (W : World), Below w3.heap.size w3 W → OwnS W w3.heap.size A n c (tpath (tleaves (pieceAt3 w.heap.size) 2) 0) → Bs W Ax 1 1 [1] → Calls Tryd.prog 12 #[.slice (some ⟨w.heap.size + 1 + 1, 0, none⟩) 2 2, .int .i64 0, .slice Ax 1 1, .slice A n c] W (ResPost W.heap.size none W) from fun A n c Ax W hW ho hx => by
    have := cleaf_yes (some ⟨w.heap.size + 1 + 1, 0, none⟩) 2 2 (pieceAt3 w.heap.size) 0 Ax 1 1 [1] A n c (tpath (tleaves (pieceAt3 w.heap.size) 2) 0) W (hrows.keep hW) (Nat.le_refl _) (by decide) (by omega) hsm (by omega) hx (by omega) ho.ss hp32 (by rw [← ho.len, hpl]) (ht.below (bt hb0 hW))
    have h2 := Cl.lf_own [1] 2 (raws (pieceAt3 w.heap.size) 2) 0 (by rw [hrawl]; exact Nat.le_refl _) (by rw [raws_at _ _ _ (by omega)]; rfl)
    rw [hrawl, ← raws_lv] at h2
    rw [h2] at this
    exact this)
  have CT := Lib.hid (show ∀ W, Below w3.heap.size w3 W → Calls Tryd.prog 22 #[.slice (some ⟨w.heap.size + 1 + 1, 0, none⟩) 2 2, .slice (some ⟨w.heap.size + 1 + 1, 0, none⟩) 2 2] W (ResPost W.heap.size none W) from fun W hW => by
    have := cTwo_yes (some ⟨w.heap.size + 1 + 1, 0, none⟩) 2 2 (pieceAt3 w.heap.size) (some ⟨w.heap.size + 1 + 1, 0, none⟩) 2 (pieceAt3 w.heap.size) W (by omega) (by omega) (hrows.keep hW) ⟨Nat.le_refl _, by decide⟩ (hrows.keep hW) ⟨Nat.le_refl _, by decide⟩ hsm hsm (ht.below (bt hb0 hW))
    rw [show Cl.two (raws (pieceAt3 w.heap.size) 2) (raws (pieceAt3 w.heap.size) 2) = none from Cl.tw_same _ _] at this
    exact this)
  have HPL := Lib.hid (show (tpath (tleaves (pieceAt3 w.heap.size) 2) 0).length = 1 by rw [hpl, hs1])
  clear hrows hsm hrawl hpl hs1 h32 hp32 hb0 hw3 ht
  go_enter Tryd.func11, Tryd.ntmps11
  go_upto_region 2 with fail
  rw [HW3.out]
  go_wp2_with fail
  refine (CL.out w3 (Below.refl _ _)).mono ?_
  rintro e w4 ⟨A4, n4, c4, rfl, ho4, hb4⟩
  have HO4 := Lib.hid ho4
  have HB4 := Lib.hid hb4
  clear ho4 hb4
  go_wp2_with fail
  refine (CP.out A4 n4 c4 w4 HB4.out HO4.out).mono ?_
  rintro e w5 ⟨A5, n5, c5, rfl, ho5, hb5⟩
  have hn5 := ho5.len
  rw [HPL.out] at hn5
  subst hn5
  have HO5 := Lib.hid (ho5.base HB4.out.size)
  have HB5 := Lib.hid (bt HB4.out hb5)
  have hc5 := ho5.cap
  have hm5 := ho5.max
  rw [maxLen_eq] at hm5
  have hbx : Below w5.heap.size w5 (w5.alloc (.cells #[.int .u8 1] 5)) := (Below.refl _ w5).alloc (Nat.le_refl _) _
  have HOX := Lib.hid (HO5.out.keep hbx)
  have HBX := Lib.hid (bt HB5.out hbx)
  have HX := Lib.hid (show Bs (w5.alloc (.cells #[.int .u8 1] 5)) (some ⟨w5.heap.size, 0, none⟩) 1 1 [1] from ⟨(rd_new w5 [bv 1] 5 (0, 0)).more (by rw [alloc_size]; exact Nat.le_refl _), rfl, Nat.le_refl _, (show 1 ≤ maxLen by decide)⟩)
  clear ho5 hb5 hbx
  go_wp2_with fail
  refine (CF.out A5 _ c5 _ _ HBX.out HOX.out HX.out).mono ?_
  rintro e w6 ⟨A6, n6, c6, B6, m6, k6, rfl, hf1, hf2, hb6⟩
  have HB6 := Lib.hid (bt (bt HBX.out hb6) ((Below.refl _ w6).alloc (Nat.le_refl _) (.cells #[.slice A6 n6 c6, .slice B6 m6 k6] 29)))
  clear hf1 hf2 hb6
  go_wp2_with fail
  refine (CT.out _ HB6.out).mono ?_
  rintro e w7 ⟨A7, n7, c7, B7, m7, k7, rfl, hf1, hf2, hb7⟩
  have HB7 := Lib.hid (bt (bt HB6.out hb7) ((Below.refl _ w7).alloc (Nat.le_refl _) (.cells #[.slice A7 n7 c7, .slice B7 m7 k7] 29)))
  clear hf1 hf2 hb7
  go_wp2
  go_ret
  exact ⟨rfl, bt HB0.out HB7.out⟩
end Go.Proofs.YtlcdpbpbfofmmaaDoor
