/- Fair answers, and their bytes. No statement of the seat is proved here. -/
import Derived.Test.YtfgpaepdlmnhaaaDoorReplyV
namespace Go.Proofs.YtfgpaepdlmnhaaaDoor
set_option maxRecDepth 100000
set_option linter.unusedVariables false
open Go.RowKit
namespace Hd
theorem Pf.bytes_le {p : Pf} (h : p.may = true) (hp : ∀ d ∈ p.path, d.length ≤ 1000) : p.bytes.length ≤ 69000 := by
  obtain ⟨h1, h2, h3, h4⟩ := Pf.may_iff.1 h
  have a1 := Code.num_len9 p.at_.toNat (by omega)
  have a2 := text_len p.link.bytes (by have := Lk.bytes_le h2; omega)
  have a3 := Lk.bytes_le h2
  have hn : p.path.length ≤ 64 := by unfold pathsOk at h3; rw [Bool.and_eq_true] at h3; exact of_decide_eq_true h3.1
  have a4 : (pathB p.path).length ≤ 64009 := by
    unfold pathB
    have h1 := Code.num_len9 p.path.length (by omega)
    have h2 := flatten_le p.path 1000 hp
    rw [List.length_append]
    omega
  have a5 := text_len p.docs (by omega)
  unfold Pf.bytes
  simp only [List.length_append]
  omega
end Hd
theorem fair_row_no {a : Hd.An} {L : List RwD} {k : Nat} {r : RwD} (hL : L.map RwD.ps = a.rows) (e : L[k]? = some r) (h : (decide (r.ps.length ≤ 16) && r.ps.all Hd.Pf.may) = false) : a.fair = false := by
  have hm : r.ps ∈ a.rows := by rw [← hL]; exact List.mem_map.2 ⟨r, List.mem_of_getElem? e, rfl⟩
  have hr : Hd.rowsOk a.rows = false := by
    unfold Hd.rowsOk
    rw [List.all_eq_false]
    exact ⟨r.ps, hm, by rw [h]; decide⟩
  unfold Hd.An.fair
  rw [hr, Bool.and_false, Bool.and_false]
def RowsOk (L : List RwD) (k : Nat) : Prop := ∀ i r, i < k → L[i]? = some r → (decide (r.ps.length ≤ 16) && r.ps.all Hd.Pf.may) = true
def PfsOk (l : List PfD) (k : Nat) : Prop := ∀ i d, i < k → l[i]? = some d → d.p.may = true
theorem RowsOk.snoc {L : List RwD} {k : Nat} {r : RwD} (h : RowsOk L k) (e : L[k]? = some r) (h1 : (decide (r.ps.length ≤ 16) && r.ps.all Hd.Pf.may) = true) : RowsOk L (k + 1) := by
  intro i r' hi hr
  rcases Nat.lt_or_ge i k with h3 | h3
  · exact h i r' h3 hr
  · obtain rfl : i = k := by omega
    rw [e] at hr
    injection hr with hr
    rw [← hr]; exact h1
theorem PfsOk.snoc {l : List PfD} {k : Nat} {d : PfD} (h : PfsOk l k) (e : l[k]? = some d) (h1 : d.p.may = true) : PfsOk l (k + 1) := by
  intro i r' hi hr
  rcases Nat.lt_or_ge i k with h3 | h3
  · exact h i r' h3 hr
  · obtain rfl : i = k := by omega
    rw [e] at hr
    injection hr with hr
    rw [← hr]; exact h1
theorem PfsOk.all {r : RwD} {k : Nat} (h : PfsOk r.l k) (hk : r.l.length = k) : r.ps.all Hd.Pf.may = true := by
  rw [List.all_eq_true]
  intro p hp
  obtain ⟨d, hd, rfl⟩ := List.mem_map.1 hp
  obtain ⟨i, hi, rfl⟩ := List.mem_iff_getElem.1 hd
  exact h i _ (by omega) (List.getElem?_eq_getElem hi)
theorem RowsOk.all {L : List RwD} {k : Nat} (h : RowsOk L k) (hk : L.length = k) : Hd.rowsOk (L.map RwD.ps) = true := by
  unfold Hd.rowsOk
  rw [List.all_eq_true]
  intro l hl
  obtain ⟨d, hd, rfl⟩ := List.mem_map.1 hl
  obtain ⟨i, hi, rfl⟩ := List.mem_iff_getElem.1 hd
  exact h i _ (by omega) (List.getElem?_eq_getElem hi)
/-- An answer of the document's, in memory. -/
structure InAn (W : World) (a : Hd.An) (As : Option Addr) (ns cs : Nat) (A : Option Addr) (n c : Nat) (L : List RwD) : Prop where
  s : Sq sgc 4 W As ns cs a.h.segs
  r : InRows W A n c L
  e : L.map RwD.ps = a.rows
theorem InAn.keep {W W' : World} {a : Hd.An} {As : Option Addr} {ns cs : Nat} {A : Option Addr} {n c : Nat} {L : List RwD} (h : InAn W a As ns cs A n c L) (hb : Below W.heap.size W W') : InAn W' a As ns cs A n c L := ⟨h.s.keep hb, h.r.keep hb, h.e⟩
/-- The bounds of an answer that is not great. -/
structure Hd.An.Few (a : Hd.An) : Prop where
  rt : ∀ s ∈ a.h.segs, s.rt.length ≤ 1000
  lg : a.h.log.length ≤ 1000
  sg : a.h.segs.length ≤ 1000
  n : a.rows.length ≤ 1000
  r : ∀ l ∈ a.rows, l.length ≤ 1000
  p : ∀ l ∈ a.rows, ∀ p ∈ l, ∀ d ∈ p.path, d.length ≤ 1000
  at1 : ∀ l ∈ a.rows, ∀ p ∈ l, -9223372036854775808 ≤ p.at_ ∧ p.at_ ≤ 9223372036854775807
set_option maxRecDepth 100000 in
set_option maxHeartbeats 32000000 in
theorem fair18_ans {As : Option Addr} {ns cs : Nat} {A : Option Addr} {n c : Nat} (a : Hd.An) (L : List RwD) (w : World) (hm : InAn w a As ns cs A n c L) (fw : a.Few) : Calls Tryd.prog 11 #[.agg #[.int .i64 a.h.size, sv a.h.log, .slice As ns cs, .slice A n c]] w (RetB a.fair w) := by
  have hln := hm.r.q.len
  have hcp := hm.r.q.cap
  have hmx := hm.r.q.max
  have hsl := hm.s.len
  rw [maxLen_eq] at hmx
  have hnr : n ≤ 1000 := by have := fw.n; rw [← hm.e, List.length_map] at this; omega
  have h1 := row_new w #[.int .i64 a.h.size, sv a.h.log, .slice As ns cs, .slice A n c] 40
  have hb := (Below.refl w.heap.size w).alloc (Nat.le_refl _) (.cells #[.int .i64 a.h.size, sv a.h.log, .slice As ns cs, .slice A n c] 40)
  obtain ⟨w1, hw1⟩ : ∃ W, w.alloc (.cells #[.int .i64 a.h.size, sv a.h.log, .slice As ns cs, .slice A n c] 40) = W := ⟨_, rfl⟩
  rw [hw1] at h1 hb
  have HW1 := Lib.hid hw1
  have HC0 := Lib.hid (And.intro hb h1)
  have HM := Lib.hid hm
  have HFW := Lib.hid fw
  have hrl0 : a.rows.length = n := by rw [← hm.e, List.length_map, hln]
  have C := Lib.hid (rhright_any As ns cs a.h w1 (hm.s.keep hb) fw.rt fw.lg)
  unfold hdv RetB at C
  clear hw1 h1 hb hm fw
  cases hg : a.h.ok with
  | false =>
    rw [hg] at C
    have HE := Lib.hid (show a.fair = false by unfold Hd.An.fair; rw [hg]; rfl)
    clear hg hrl0
    go_enter Tryd.func11, Tryd.ntmps11
    go_upto_region 1 with fail
    rw [HW1.out]
    have x0 := HC0.out.2.cellQ 0 _ rfl
    have x1 := HC0.out.2.cellQ 1 _ rfl
    have x2 := HC0.out.2.cellQ 2 _ rfl
    go_wp2_with fail
    (with_reducible refine C.out.mono ?_)
    rintro e w2 ⟨rfl, hb9⟩
    have HC1 := Lib.hid (And.intro (bt HC0.out.1 hb9) (HC0.out.2.belowS hb9 (Nat.le_refl _)))
    clear hb9 C HC0 x0 x1 x2 HW1
    have x2 := HC1.out.2.cellQ 2 _ rfl
    have x3 := HC1.out.2.cellQ 3 _ rfl
    clear x2 x3
    go_wp2
    go_ret
    rw [HE.out]
    exact ⟨rfl, HC1.out.1⟩
  | true =>
    rw [hg] at C
    have HG := Lib.hid hg
    clear hg
    by_cases hne : n = ns
    rotate_left
    · have HE := Lib.hid (show a.fair = false by unfold Hd.An.fair; rw [decide_eq_false (show ¬ a.rows.length = a.h.segs.length by omega), Bool.false_and, Bool.and_false])
      have hne' : ¬ (n : Int) = (ns : Int) := by omega
      have hneb : ((n : Int) == (ns : Int)) = false := beq_eq_false_iff_ne.2 hne'
      clear hrl0
      go_enter Tryd.func11, Tryd.ntmps11
      go_upto_region 1 with fail
      rw [HW1.out]
      have x0 := HC0.out.2.cellQ 0 _ rfl
      have x1 := HC0.out.2.cellQ 1 _ rfl
      have x2 := HC0.out.2.cellQ 2 _ rfl
      go_wp2_with fail
      (with_reducible refine C.out.mono ?_)
      rintro e w2 ⟨rfl, hb9⟩
      have HC1 := Lib.hid (And.intro (bt HC0.out.1 hb9) (HC0.out.2.belowS hb9 (Nat.le_refl _)))
      clear hb9 C HC0 x0 x1 x2 HW1
      have x2 := HC1.out.2.cellQ 2 _ rfl
      have x3 := HC1.out.2.cellQ 3 _ rfl
      go_wp2
      go_ret
      rw [HE.out]
      exact ⟨rfl, HC1.out.1⟩
    subst hne
    clear hrl0
    go_enter Tryd.func11, Tryd.ntmps11
    go_upto_region 1 with fail
    rw [HW1.out]
    have x0 := HC0.out.2.cellQ 0 _ rfl
    have x1 := HC0.out.2.cellQ 1 _ rfl
    have x2 := HC0.out.2.cellQ 2 _ rfl
    go_wp2_with fail
    (with_reducible refine C.out.mono ?_)
    rintro e w2 ⟨rfl, hb9⟩
    have HC1 := Lib.hid (And.intro (bt HC0.out.1 hb9) (HC0.out.2.belowS hb9 (Nat.le_refl _)))
    clear hb9 C HC0 x0 x1 x2 HW1
    have x2 := HC1.out.2.cellQ 2 _ rfl
    have x3 := HC1.out.2.cellQ 3 _ rfl
    go_wp2
    clear x2 x3
    go_loopw [3] (fun vi wr => ∃ (k : Nat), vi = .int .i64 (k : Int) ∧ k ≤ n ∧ Hid (Below w.heap.size w wr ∧ Row wr w.heap.size #[.int .i64 a.h.size, sv a.h.log, .slice As n cs, .slice A n c] 40) ∧ Hid (RowsOk L k)) (fun vi _ => n - (intOf vi).toNat)
    case atStart => exact ⟨0, rfl, by omega, HC1, Lib.hid (fun i r hi => by omega)⟩
    case round =>
      obtain ⟨k, rfl, hk, HI, HN⟩ := hrel
      have x3 := HI.out.2.cellQ 3 _ rfl
      by_cases hlt : k < n
      · obtain ⟨b, off, r, rfl, hbk, hrk, hcells⟩ := HM.out.r.q.at rwc_len (by omega) hlt
        have HCL := Lib.hid hcells
        have HRK := Lib.hid hrk
        have HRI := Lib.hid (HM.out.r.i r (List.mem_of_getElem? hrk))
        have HPM := Lib.hid (show r.ps ∈ a.rows by rw [← HM.out.e]; exact List.mem_map.2 ⟨r, List.mem_of_getElem? hrk, rfl⟩)
        have hpl : r.ps.length = r.n := by unfold RwD.ps; rw [List.length_map, HRI.out.q.len]
        have hrl : r.l.length = r.n := HRI.out.q.len
        have hrcap := HRI.out.q.cap
        have hrmax := HRI.out.q.max
        rw [maxLen_eq] at hrmax
        have y0 := hcells wr HI.out.1 0 _ rfl
        rw [Nat.mul_one, Nat.add_zero] at y0
        clear hcells hrk
        by_cases h16 : 16 < r.n
        · have h16' : (16 : Int) < (r.n : Int) := by omega
          have HE := Lib.hid (fair_row_no HM.out.e HRK.out (by rw [decide_eq_false (by omega)]; rfl))
          go_wp2
          go_ret
          rw [HE.out]
          exact ⟨rfl, HI.out.1⟩
        have h16' : ¬ (16 : Int) < (r.n : Int) := by omega
        go_wp2
        clear x3 y0
        go_loopw [4] (fun vj wr => ∃ (j : Nat), vj = .int .i64 (j : Int) ∧ j ≤ r.n ∧ Hid (Below w.heap.size w wr ∧ Row wr w.heap.size #[.int .i64 a.h.size, sv a.h.log, .slice As n cs, .slice (some ⟨b, off, none⟩) n c] 40) ∧ Hid (PfsOk r.l j)) (fun vj _ => r.n - (intOf vj).toNat)
        case atStart => exact ⟨0, rfl, by omega, HI, Lib.hid (fun i r hi => by omega)⟩
        case round =>
          obtain ⟨j, rfl, hj, HJ, HQ⟩ := hrel
          have x3 := HJ.out.2.cellQ 3 _ rfl
          have y0 := HCL.out wr HJ.out.1 0 _ rfl
          rw [Nat.mul_one, Nat.add_zero] at y0
          by_cases hltj : j < r.n
          · obtain ⟨b2, off2, d, hra, hbk2, hdj, hc2⟩ := HRI.out.q.at pfc_len (by omega) hltj
            have q0 := hc2 wr HJ.out.1 0 _ rfl
            rw [Nat.add_zero] at q0
            have q1 := hc2 wr HJ.out.1 1 _ rfl
            have q2 := hc2 wr HJ.out.1 2 _ rfl
            have q3 := hc2 wr HJ.out.1 3 _ rfl
            have q4 := hc2 wr HJ.out.1 4 _ rfl
            have q5 := hc2 wr HJ.out.1 5 _ rfl
            have HDJ := Lib.hid hdj
            have HPD := Lib.hid (HRI.out.i d (List.mem_of_getElem? hdj))
            have HDP := Lib.hid (show d.p ∈ r.ps from List.mem_map.2 ⟨d, List.mem_of_getElem? hdj, rfl⟩)
            rw [hra] at y0
            clear hc2 hdj hra
            have CM := Lib.hid (may18_any d.ap d.np d.cp d.ad d.nd d.cd d.p wr (HPD.out.s.keep HJ.out.1) (fun x hx => by have := HFW.out.p r.ps HPM.out d.p HDP.out x hx; omega) HPD.out.b.len)
            unfold RetB at CM
            cases hg : d.p.may with
            | false =>
              rw [hg] at CM
              have HE := Lib.hid (fair_row_no HM.out.e HRK.out (by
                rw [Bool.and_eq_false_iff]
                right
                rw [List.all_eq_false]
                exact ⟨d.p, HDP.out, by rw [hg]; decide⟩))
              clear hg
              go_wp2_with fail
              (with_reducible refine CM.out.mono ?_)
              rintro e w5 ⟨rfl, hb9⟩
              have HB5 := Lib.hid (bt HJ.out.1 hb9)
              clear hb9
              go_wp2
              go_ret
              rw [HE.out]
              exact ⟨rfl, HB5.out⟩
            | true =>
              rw [hg] at CM
              have HNJ := Lib.hid (HQ.out.snoc HDJ.out hg)
              clear hg
              go_wp2_with fail
              (with_reducible refine CM.out.mono ?_)
              rintro e w5 ⟨rfl, hb9⟩
              have HC5 := Lib.hid (And.intro (bt HJ.out.1 hb9) (HJ.out.2.belowS hb9 (Nat.le_refl _)))
              clear hb9 CM
              go_wp2
              go_roundw
              case rel => exact ⟨j + 1, by go_num, by omega, HC5, HNJ⟩
              case measure => simp [intOf]; omega
          · obtain rfl : j = r.n := by omega
            have HNX := Lib.hid (HN.out.snoc HRK.out (by rw [decide_eq_true (by omega), HQ.out.all hrl]; rfl))
            go_wp2
            go_roundw
            case rel => exact ⟨k + 1, by go_num, by omega, HJ, HNX⟩
            case measure => simp [intOf]; omega
      · obtain rfl : k = n := by omega
        have HE := Lib.hid (show a.fair = true by unfold Hd.An.fair; rw [HG.out, ← HM.out.e, HN.out.all hln, List.length_map, decide_eq_true (by omega)]; rfl)
        go_wp2
        go_ret
        rw [HE.out]
        exact ⟨rfl, HI.out.1⟩
set_option maxRecDepth 100000 in
set_option maxHeartbeats 32000000 in
theorem wrB_ans {As : Option Addr} {ns cs : Nat} {A : Option Addr} {n c : Nat} (a : Hd.An) (L : List RwD) (w : World) (hm : InAn w a As ns cs A n c L) (fw : a.Few) (hf : a.fair = true) : Calls Tryd.prog 13 #[.agg #[.int .i64 a.h.size, sv a.h.log, .slice As ns cs, .slice A n c]] w (Ret8 w.heap.size a.bytes w) := by
  obtain ⟨hf1, hf2, hf3⟩ := Hd.An.fair_iff.1 hf
  have okh := Hd.H.ok_iff hf1
  have hln := hm.r.q.len
  have hcp := hm.r.q.cap
  have hmx := hm.r.q.max
  have hsl := hm.s.len
  rw [maxLen_eq] at hmx
  have hnr : n ≤ 1000 := by have := fw.n; rw [← hm.e, List.length_map] at this; omega
  have h1 := row_new w #[.int .i64 a.h.size, sv a.h.log, .slice As ns cs, .slice A n c] 40
  have hb := (Below.refl w.heap.size w).alloc (Nat.le_refl _) (.cells #[.int .i64 a.h.size, sv a.h.log, .slice As ns cs, .slice A n c] 40)
  obtain ⟨w1, hw1⟩ : ∃ W, w.alloc (.cells #[.int .i64 a.h.size, sv a.h.log, .slice As ns cs, .slice A n c] 40) = W := ⟨_, rfl⟩
  rw [hw1] at h1 hb
  have HW1 := Lib.hid hw1
  have h2 := h1.alloc (.cells #[.int .u8 1] 5)
  have o2 := Own8.new w1 [1] [.int .u8 1] (B := w.heap.size) (n := 1) hb.size rfl rfl (by decide)
  have hb2 := hb.alloc (Nat.le_trans (Nat.le_refl _) hb.size) (.cells #[.int .u8 1] 5)
  obtain ⟨w2, hw2⟩ : ∃ W, w1.alloc (.cells #[.int .u8 1] 5) = W := ⟨_, rfl⟩
  rw [show (([Value.int .u8 1] : List Value).toArray) = #[.int .u8 1] from rfl, hw2] at o2
  rw [hw2] at h2 hb2
  have HW2 := Lib.hid hw2
  have HR0 := Lib.hid h2
  have HB0 := Lib.hid hb2
  have HO0 := Lib.hid o2
  have HM := Lib.hid hm
  have HFW := Lib.hid fw
  have HF3 := Lib.hid hf3
  have hb_h : (Code.text a.h.bytes).length ≤ 10009 := by have h1 := text_len a.h.bytes (by rw [← Hd.H.till_all rfl]; have := Hd.H.till_len okh a.h.segs.length; omega); have h2 : a.h.bytes.length ≤ 10000 := (by rw [← Hd.H.till_all rfl]; exact Hd.H.till_len okh _); omega
  have C := Lib.hid (headB_any As ns cs a.h w2 (hm.s.keep hb2) okh)
  unfold Ret8 at C
  clear hw1 hw2 h1 h2 hb hb2 o2 hm fw hf hf1 hf2 hf3 okh
  go_enter Tryd.func13, Tryd.ntmps13
  go_upto_region 1 with fail
  rw [HW1.out]
  have x0 := HR0.out.cellQ 0 _ rfl
  have x1 := HR0.out.cellQ 1 _ rfl
  have x2 := HR0.out.cellQ 2 _ rfl
  have xl : w1.alloc (.cells #[.int .u8 1] 5) = w2 := HW2.out
  go_wp2_with fail
  (with_reducible refine C.out.mono ?_)
  rintro e w10 ⟨A0', n0', c0', rfl, ho, hb⟩
  have HP0 := Lib.hid ho
  have HX0 := Lib.hid (HO0.out.keep hb)
  have HS0 := Lib.hid (HR0.out.belowS hb (Nat.le_refl _))
  have HC0 := Lib.hid (bt HB0.out hb)
  have hl0 := HX0.out.len
  have hm0 := ho.len
  simp only [List.length_cons, List.length_nil] at hl0
  have hBB := HC0.out.size
  clear ho hb C x0 x1 x2 xl
  go_upto_region 2 with (at_builtin; refine wl_app8 rfl (.tmp 6) (.tmp 9) rfl rfl HX0.out rfl HP0.out.bs (by omega) hBB ?_; intro A9 n9 c9 w20 ho9 hb9 hg9; have HO1 := Lib.hid ho9; have HB1 := Lib.hid (HC0.out.trans hb9); have HR1 := Lib.hid (HS0.out.keepTy (by decide) (KeepTy.grown (S := [5]) HX0.out.own (by decide) hg9 hb9.size)); clear ho9 hb9 hg9 hBB)
  have hl1 := HO1.out.len
  rw [List.length_append, List.length_singleton] at hl1
  clear hl0 HX0 HS0 HC0
  go_wp2
  go_loopw [3, 4] (fun vb vi wr => ∃ (k : Nat) (B' : Option Addr) (m' c' : Nat), vb = .slice B' m' c' ∧ vi = .int .i64 (k : Int) ∧ k ≤ n ∧ m' ≤ 10010 + 70000000 * k ∧ Hid (Own8 wr w.heap.size B' m' c' (([1] ++ Code.text a.h.bytes) ++ (a.rows.take k).flatMap Hd.rowB) ∧ Below w.heap.size w wr ∧ Row wr w.heap.size #[.int .i64 a.h.size, sv a.h.log, .slice As ns cs, .slice A n c] 40)) (fun _ vi _ => n - (intOf vi).toNat)
  case atStart => exact ⟨0, A9, n9, c9, rfl, rfl, by omega, by omega, Lib.hid ⟨by simpa using HO1.out, HB1.out, HR1.out⟩⟩
  case round =>
    obtain ⟨k, B', m', c', rfl, rfl, hk, hm', HI⟩ := hrel
    have x3 := HI.out.2.2.cellQ 3 _ rfl
    by_cases hlt : k < n
    · obtain ⟨b, off, r, rfl, hbk, hrk, hcells⟩ := HM.out.r.q.at rwc_len (by omega) hlt
      have HCL := Lib.hid hcells
      have HRK := Lib.hid hrk
      have HRI := Lib.hid (HM.out.r.i r (List.mem_of_getElem? hrk))
      have HPM := Lib.hid (show r.ps ∈ a.rows by rw [← HM.out.e]; exact List.mem_map.2 ⟨r, List.mem_of_getElem? hrk, rfl⟩)
      have hpl : r.ps.length = r.n := by unfold RwD.ps; rw [List.length_map, HRI.out.q.len]
      have hrl : r.l.length = r.n := HRI.out.q.len
      have hrcap := HRI.out.q.cap
      have hrmax := HRI.out.q.max
      rw [maxLen_eq] at hrmax
      have y0 := hcells wr HI.out.2.1 0 _ rfl
      rw [Nat.mul_one, Nat.add_zero] at y0
      clear hcells hrk
      have HTK := Lib.hid (show (a.rows.take (k + 1)).flatMap Hd.rowB = (a.rows.take k).flatMap Hd.rowB ++ (Code.num r.n ++ r.ps.flatMap Hd.Pf.bytes) by
        have h : a.rows[k]? = some r.ps := by rw [← HM.out.e, List.getElem?_map, HRK.out]; rfl
        rw [List.take_add_one, h, ← hpl]
        simp [Hd.rowB])
      have HMY := Lib.hid (show ∀ p ∈ r.ps, p.may = true by
        have h := List.all_eq_true.1 HF3.out r.ps HPM.out
        rw [Bool.and_eq_true] at h
        exact List.all_eq_true.1 h.2)
      have hr16 : r.n ≤ 1000 := by have := HFW.out.r r.ps HPM.out; omega
      have CN := Lib.hid (rnum_any r.n r.n wr (Nat.le_refl _) (by omega))
      have hnl := Code.num_len9 r.n (by omega)
      unfold Ret8 at CN
      go_wp2_with fail
      (with_reducible refine CN.out.mono ?_)
      rintro e w3 ⟨A3, n3, c3, rfl, ho, hb⟩
      have HP3 := Lib.hid ho
      have HX3 := Lib.hid (HI.out.1.keep hb)
      have HS3 := Lib.hid (HI.out.2.2.belowS hb (Nat.le_refl _))
      have HC3 := Lib.hid (bt HI.out.2.1 hb)
      have hl3 := ho.len
      have hBB := HC3.out.size
      clear ho hb CN x3 y0 HI
      go_upto_region 6 with (at_builtin; refine wl_app8 rfl (.tmp 18) (.tmp 25) rfl rfl HX3.out rfl HP3.out.bs (by omega) hBB ?_; intro A4 n4 c4 w4 ho9 hb9 hg9; have HO4 := Lib.hid ho9; have HB4 := Lib.hid (HC3.out.trans hb9); have HR4 := Lib.hid (HS3.out.keepTy (by decide) (KeepTy.grown (S := [5]) HX3.out.own (by decide) hg9 hb9.size)); have hn4 : n4 ≤ m' + 9 := (by have a1 := ho9.len; have a2 := HX3.out.len; rw [List.length_append] at a1; omega); clear ho9 hb9 hg9 hBB)
      clear HX3 HS3 HC3
      go_wp2
      go_loopw [3, 5] (fun vb vj wr => ∃ (j : Nat) (B'' : Option Addr) (m'' c'' : Nat), vb = .slice B'' m'' c'' ∧ vj = .int .i64 (j : Int) ∧ j ≤ r.n ∧ m'' ≤ n4 + 69000 * j ∧ Hid (Own8 wr w.heap.size B'' m'' c'' (((([1] ++ Code.text a.h.bytes) ++ (a.rows.take k).flatMap Hd.rowB) ++ Code.num r.n) ++ (r.ps.take j).flatMap Hd.Pf.bytes) ∧ Below w.heap.size w wr ∧ Row wr w.heap.size #[.int .i64 a.h.size, sv a.h.log, .slice As ns cs, .slice (some ⟨b, off, none⟩) n c] 40)) (fun _ vj _ => r.n - (intOf vj).toNat)
      case atStart => exact ⟨0, A4, n4, c4, rfl, rfl, by omega, by omega, Lib.hid ⟨by simpa using HO4.out, HB4.out, HR4.out⟩⟩
      case round =>
        obtain ⟨j, B'', m'', c'', rfl, rfl, hj, hm'', HJ⟩ := hrel
        have x3 := HJ.out.2.2.cellQ 3 _ rfl
        have y0 := HCL.out wr HJ.out.2.1 0 _ rfl
        rw [Nat.mul_one, Nat.add_zero] at y0
        by_cases hltj : j < r.n
        · obtain ⟨b2, off2, d, hra, hbk2, hdj, hc2⟩ := HRI.out.q.at pfc_len (by omega) hltj
          have q0 := hc2 wr HJ.out.2.1 0 _ rfl
          rw [Nat.add_zero] at q0
          have q1 := hc2 wr HJ.out.2.1 1 _ rfl
          have q2 := hc2 wr HJ.out.2.1 2 _ rfl
          have q3 := hc2 wr HJ.out.2.1 3 _ rfl
          have q4 := hc2 wr HJ.out.2.1 4 _ rfl
          have q5 := hc2 wr HJ.out.2.1 5 _ rfl
          have HDJ := Lib.hid hdj
          have HPD := Lib.hid (HRI.out.i d (List.mem_of_getElem? hdj))
          have HDP := Lib.hid (show d.p ∈ r.ps from List.mem_map.2 ⟨d, List.mem_of_getElem? hdj, rfl⟩)
          rw [hra] at y0
          clear hc2 hdj hra
          have HTJ := Lib.hid (show (r.ps.take (j + 1)).flatMap Hd.Pf.bytes = (r.ps.take j).flatMap Hd.Pf.bytes ++ d.p.bytes by
            have h : r.ps[j]? = some d.p := by unfold RwD.ps; rw [List.getElem?_map, HDJ.out]; rfl
            rw [List.take_add_one, h]
            simp)
          have hpd1000 : ∀ x ∈ d.p.path, x.length ≤ 1000 := HFW.out.p r.ps HPM.out d.p HDP.out
          have hpb := Hd.Pf.bytes_le (HMY.out d.p HDP.out) hpd1000
          have CP := Lib.hid (pfB_any d.ap d.np d.cp d.ad d.nd d.cd d.p wr (HPD.out.s.keep HJ.out.2.1) (HPD.out.b.keep HJ.out.2.1) (HMY.out d.p HDP.out) hpd1000)
          unfold Ret8 at CP
          clear hpd1000
          go_wp2_with fail
          (with_reducible refine CP.out.mono ?_)
          rintro e w5 ⟨A5, n5, c5, rfl, ho, hb⟩
          have HP5 := Lib.hid ho
          have HX5 := Lib.hid (HJ.out.1.keep hb)
          have HS5 := Lib.hid (HJ.out.2.2.belowS hb (Nat.le_refl _))
          have HC5 := Lib.hid (bt HJ.out.2.1 hb)
          have hl5 := ho.len
          have hBB := HC5.out.size
          clear ho hb CP x3 y0 q0 q1 q2 q3 q4 q5 HJ
          go_wp2_with (at_builtin; refine wl_app8 rfl (.tmp 37) (.tmp 46) rfl rfl HX5.out rfl HP5.out.bs (by omega) hBB ?_; intro A6 n6 c6 w6 ho9 hb9 hg9; have HO6 := Lib.hid ho9; have HB6 := Lib.hid (HC5.out.trans hb9); have HR6 := Lib.hid (HS5.out.keepTy (by decide) (KeepTy.grown (S := [5]) HX5.out.own (by decide) hg9 hb9.size)); have hn6 : n6 ≤ m'' + 69000 := (by have a1 := ho9.len; have a2 := HX5.out.len; rw [List.length_append] at a1; omega); clear ho9 hb9 hg9 hBB)
          go_roundw
          case rel => exact ⟨j + 1, A6, n6, c6, rfl, by go_num, Nat.succ_le_of_lt hltj, Nat.le_trans hn6 (by rw [Nat.mul_succ, ← Nat.add_assoc]; exact Nat.add_le_add_right hm'' _), Lib.hid ⟨by rw [HTJ.out, ← List.append_assoc]; exact HO6.out, HB6.out, HR6.out⟩⟩
          case measure => simp [intOf]; omega
        · obtain rfl : j = r.n := by omega
          go_wp2
          go_roundw
          case rel => exact ⟨k + 1, B'', m'', c'', rfl, by go_num, by omega, by omega, Lib.hid ⟨by rw [HTK.out]; have h := HJ.out.1; rw [← hpl, List.take_length, hpl] at h; rw [← List.append_assoc, ← List.append_assoc]; exact h, HJ.out.2.1, HJ.out.2.2⟩⟩
          case measure => simp [intOf]; omega
    · obtain rfl : k = n := by omega
      have HE := Lib.hid (show ([1] ++ Code.text a.h.bytes) ++ (a.rows.take k).flatMap Hd.rowB = a.bytes by
        unfold Hd.An.bytes
        rw [show k = a.rows.length by rw [← HM.out.e, List.length_map]; omega, List.take_length])
      go_wp2
      go_ret
      exact ⟨B', m', c', rfl, by rw [← HE.out]; exact HI.out.1, HI.out.2.1⟩
end Go.Proofs.YtfgpaepdlmnhaaaDoor
