/- Answers that are great. No statement of the seat is proved here. -/
import Derived.Test.YtfgpaepdlmnhaaaDoorReplyU
namespace Go.Proofs.YtfgpaepdlmnhaaaDoor
set_option maxRecDepth 100000
set_option linter.unusedVariables false
open Go.RowKit
namespace Hd
structure Pf.Bd (p : Pf) : Prop where
  t : p.link.term.length ≤ 200
  n : p.link.next.length ≤ 200
  o : p.link.posts.length ≤ 200
  d : p.docs.length ≤ 5000
  g : Tree.great p.path = false
structure An.Bd (a : An) : Prop where
  h : a.h.great = false
  n : a.rows.length ≤ 100
  r : ∀ l ∈ a.rows, l.length ≤ 30
  p : ∀ l ∈ a.rows, ∀ p ∈ l, p.Bd
end Hd
def GrPost (a : Hd.An) (w : World) (e : Ending) (w' : World) : Prop := ∃ b : Bool, e = .returned (.bool b) ∧ Below w.heap.size w w' ∧ (b = false → a.Bd)
theorem GrPost.yes {a : Hd.An} {w w' : World} (h : Below w.heap.size w w') : GrPost a w (.returned (.bool true)) w' := ⟨true, rfl, h, fun e => by cases e⟩
/-- The rows before k are not great. -/
def RowsBd (L : List RwD) (k : Nat) : Prop := ∀ i r, i < k → L[i]? = some r → r.ps.length ≤ 30 ∧ ∀ p ∈ r.ps, p.Bd
def PfsBd (l : List PfD) (k : Nat) : Prop := ∀ i d, i < k → l[i]? = some d → d.p.Bd
theorem RowsBd.snoc {L : List RwD} {k : Nat} {r : RwD} (h : RowsBd L k) (e : L[k]? = some r) (h1 : r.ps.length ≤ 30) (h2 : ∀ p ∈ r.ps, p.Bd) : RowsBd L (k + 1) := by
  intro i r' hi hr
  rcases Nat.lt_or_ge i k with h3 | h3
  · exact h i r' h3 hr
  · obtain rfl : i = k := by omega
    rw [e] at hr
    injection hr with hr
    rw [← hr]; exact ⟨h1, h2⟩
theorem PfsBd.snoc {l : List PfD} {k : Nat} {d : PfD} (h : PfsBd l k) (e : l[k]? = some d) (h1 : d.p.Bd) : PfsBd l (k + 1) := by
  intro i r' hi hr
  rcases Nat.lt_or_ge i k with h3 | h3
  · exact h i r' h3 hr
  · obtain rfl : i = k := by omega
    rw [e] at hr
    injection hr with hr
    rw [← hr]; exact h1
theorem PfsBd.all {r : RwD} {k : Nat} (h : PfsBd r.l k) (hk : r.l.length = k) : ∀ p ∈ r.ps, p.Bd := by
  intro p hp
  obtain ⟨d, hd, rfl⟩ := List.mem_map.1 hp
  obtain ⟨i, hi, rfl⟩ := List.mem_iff_getElem.1 hd
  exact h i _ (by omega) (List.getElem?_eq_getElem hi)
theorem RowsBd.all {L : List RwD} {k : Nat} (h : RowsBd L k) (hk : L.length = k) : ∀ l ∈ L.map RwD.ps, l.length ≤ 30 ∧ ∀ p ∈ l, p.Bd := by
  intro l hl
  obtain ⟨d, hd, rfl⟩ := List.mem_map.1 hl
  obtain ⟨i, hi, rfl⟩ := List.mem_iff_getElem.1 hd
  exact h i _ (by omega) (List.getElem?_eq_getElem hi)
set_option maxRecDepth 100000 in
set_option maxHeartbeats 32000000 in
theorem great18_any {As : Option Addr} {ns cs : Nat} {A : Option Addr} {n c : Nat} (a : Hd.An) (L : List RwD) (hL : L.map RwD.ps = a.rows) (w : World) (hs : Sq sgc 4 w As ns cs a.h.segs) (hrt : ∀ s ∈ a.h.segs, s.rt.length ≤ maxLen) (hlog : a.h.log.length ≤ maxLen) (hr : InRows w A n c L) (hwf : ∀ l ∈ a.rows, ∀ p ∈ l, ∀ d ∈ p.path, d.length ≤ maxLen) : Calls Tryd.prog 8 #[.agg #[.int .i64 a.h.size, sv a.h.log, .slice As ns cs, .slice A n c]] w (GrPost a w) := by
  have hln := hr.q.len
  have hcp := hr.q.cap
  have hmx := hr.q.max
  rw [maxLen_eq] at hmx
  have h1 := row_new w #[.int .i64 a.h.size, sv a.h.log, .slice As ns cs, .slice A n c] 27
  have hb := (Below.refl w.heap.size w).alloc (Nat.le_refl _) (.cells #[.int .i64 a.h.size, sv a.h.log, .slice As ns cs, .slice A n c] 27)
  obtain ⟨w1, hw1⟩ : ∃ W, w.alloc (.cells #[.int .i64 a.h.size, sv a.h.log, .slice As ns cs, .slice A n c] 27) = W := ⟨_, rfl⟩
  rw [hw1] at h1 hb
  have HW1 := Lib.hid hw1
  have HC0 := Lib.hid (And.intro hb h1)
  have HR := Lib.hid hr
  have HLL := Lib.hid hL
  have HWF := Lib.hid hwf
  have C := Lib.hid (great15_any As ns cs a.h w1 (hs.keep hb) hrt hlog)
  unfold RetB at C
  clear hw1 h1 hb hr hL hwf hs hrt hlog
  cases hg : a.h.great with
  | true =>
    rw [hg] at C
    clear hg
    go_enter Tryd.func8, Tryd.ntmps8
    go_upto_region 1 with fail
    rw [HW1.out]
    have x0 := HC0.out.2.cellQ 0 _ rfl
    have x1 := HC0.out.2.cellQ 1 _ rfl
    have x2 := HC0.out.2.cellQ 2 _ rfl
    go_wp2_with fail
    (with_reducible refine C.out.mono ?_)
    rintro e w2 ⟨rfl, hb9⟩
    have HB := Lib.hid (bt HC0.out.1 hb9)
    clear hb9 C
    go_wp2
    go_ret
    exact GrPost.yes HB.out
  | false =>
    rw [hg] at C
    have HG := Lib.hid hg
    clear hg
    by_cases h100 : 100 < n
    · have h100' : (100 : Int) < (n : Int) := by omega
      go_enter Tryd.func8, Tryd.ntmps8
      go_upto_region 1 with fail
      rw [HW1.out]
      have x0 := HC0.out.2.cellQ 0 _ rfl
      have x1 := HC0.out.2.cellQ 1 _ rfl
      have x2 := HC0.out.2.cellQ 2 _ rfl
      go_wp2_with fail
      (with_reducible refine C.out.mono ?_)
      rintro e w2 ⟨rfl, hb9⟩
      have HC1 := Lib.hid (And.intro (bt HC0.out.1 hb9) (HC0.out.2.belowS hb9 (Nat.le_refl _)))
      clear hb9 C HC0 x0 x1 x2 HW1
      have x3 := HC1.out.2.cellQ 3 _ rfl
      go_wp2
      go_ret
      exact GrPost.yes HC1.out.1
    have h100' : ¬ (100 : Int) < (n : Int) := by omega
    go_enter Tryd.func8, Tryd.ntmps8
    go_upto_region 1 with fail
    rw [HW1.out]
    have x0 := HC0.out.2.cellQ 0 _ rfl
    have x1 := HC0.out.2.cellQ 1 _ rfl
    have x2 := HC0.out.2.cellQ 2 _ rfl
    go_wp2_with fail
    (with_reducible refine C.out.mono ?_)
    rintro e w2 ⟨rfl, hb9⟩
    have HC1 := Lib.hid (And.intro (bt HC0.out.1 hb9) (HC0.out.2.belowS hb9 (Nat.le_refl _)))
    clear hb9 C HC0 x0 x1 x2 HW1
    have x3 := HC1.out.2.cellQ 3 _ rfl
    go_wp2
    clear x3
    go_loopw [3] (fun vi wr => ∃ (k : Nat), vi = .int .i64 (k : Int) ∧ k ≤ n ∧ Hid (Below w.heap.size w wr ∧ Row wr w.heap.size #[.int .i64 a.h.size, sv a.h.log, .slice As ns cs, .slice A n c] 27) ∧ Hid (RowsBd L k)) (fun vi _ => n - (intOf vi).toNat)
    case atStart => exact ⟨0, rfl, by omega, HC1, Lib.hid (fun i r hi => by omega)⟩
    case round =>
      obtain ⟨k, rfl, hk, HI, HN⟩ := hrel
      have x3 := HI.out.2.cellQ 3 _ rfl
      by_cases hlt : k < n
      · obtain ⟨b, off, r, rfl, hbk, hrk, hcells⟩ := HR.out.q.at rwc_len (by omega) hlt
        have HCL := Lib.hid hcells
        have HRK := Lib.hid hrk
        have HRI := Lib.hid (HR.out.i r (List.mem_of_getElem? hrk))
        have HPM := Lib.hid (show r.ps ∈ a.rows by rw [← HLL.out]; exact List.mem_map.2 ⟨r, List.mem_of_getElem? hrk, rfl⟩)
        have hpl : r.ps.length = r.n := by unfold RwD.ps; rw [List.length_map, HRI.out.q.len]
        have hrl : r.l.length = r.n := HRI.out.q.len
        have hrcap := HRI.out.q.cap
        have hrmax := HRI.out.q.max
        rw [maxLen_eq] at hrmax
        have y0 := hcells wr HI.out.1 0 _ rfl
        rw [Nat.mul_one, Nat.add_zero] at y0
        clear hcells hrk
        by_cases h30 : 30 < r.n
        · have h30' : (30 : Int) < (r.n : Int) := by omega
          go_wp2
          go_ret
          exact GrPost.yes HI.out.1
        have h30' : ¬ (30 : Int) < (r.n : Int) := by omega
        go_wp2
        clear x3 y0
        go_loopw [4] (fun vj wr => ∃ (j : Nat), vj = .int .i64 (j : Int) ∧ j ≤ r.n ∧ Hid (Below w.heap.size w wr ∧ Row wr w.heap.size #[.int .i64 a.h.size, sv a.h.log, .slice As ns cs, .slice (some ⟨b, off, none⟩) n c] 27) ∧ Hid (PfsBd r.l j)) (fun vj _ => r.n - (intOf vj).toNat)
        case atStart => exact ⟨0, rfl, by omega, HI, Lib.hid (fun i r hi => by omega)⟩
        case round =>
          obtain ⟨j, rfl, hj, HJ, HM⟩ := hrel
          have x3 := HJ.out.2.cellQ 3 _ rfl
          have y0 := HCL.out wr HJ.out.1 0 _ rfl
          rw [Nat.mul_one, Nat.add_zero] at y0
          by_cases hltj : j < r.n
          · obtain ⟨b2, off2, d, hra, hbk2, hdj, hc2⟩ := HRI.out.q.at pfc_len (by omega) hltj
            have q0 := hc2 wr HJ.out.1 0 _ rfl
            rw [Nat.add_zero] at q0
            have q1 := hc2 wr HJ.out.1 1 _ rfl
            have q2 := hc2 wr HJ.out.1 2 _ rfl
            have q3 := hc2 wr HJ.out.1 3 _ rfl
            have q4 := hc2 wr HJ.out.1 4 _ rfl
            have q5 := hc2 wr HJ.out.1 5 _ rfl
            have HDJ := Lib.hid hdj
            have HPD := Lib.hid (HRI.out.i d (List.mem_of_getElem? hdj))
            have HWD := Lib.hid (HWF.out r.ps HPM.out d.p (List.mem_map.2 ⟨d, List.mem_of_getElem? hdj, rfl⟩))
            have hdl := HPD.out.b.len
            have hdc := HPD.out.b.cap
            have hdm := HPD.out.b.max
            rw [maxLen_eq] at hdm
            have z1 : (str d.p.link.term).size = d.p.link.term.length := strLen _
            have z2 : (str d.p.link.next).size = d.p.link.next.length := strLen _
            have z3 : (str d.p.link.posts).size = d.p.link.posts.length := strLen _
            rw [hra] at y0
            clear hc2 hdj hra
            go_upto_region 12 with fail
            have hbz := (Below.refl wr.heap.size wr).alloc (Nat.le_refl _) (.cells #[.int .i64 d.p.at_, sv d.p.link.term, sv d.p.link.next, sv d.p.link.posts, .slice d.ap d.np d.cp, .slice d.ad d.nd d.cd] 79)
            have hrz := row_new wr #[.int .i64 d.p.at_, sv d.p.link.term, sv d.p.link.next, sv d.p.link.posts, .slice d.ap d.np d.cp, .slice d.ad d.nd d.cd] 79
            obtain ⟨wz, hwz⟩ : ∃ W, wr.alloc (.cells #[.int .i64 d.p.at_, sv d.p.link.term, sv d.p.link.next, sv d.p.link.posts, .slice d.ap d.np d.cp, .slice d.ad d.nd d.cd] 79) = W := ⟨_, rfl⟩
            rw [hwz] at hbz hrz
            rw [hwz]
            have HZ := Lib.hid (And.intro (bt HJ.out.1 hbz) (HJ.out.2.belowS hbz (Nat.le_refl _)))
            have p1 := hrz.cellQ 1 _ rfl
            have p2 := hrz.cellQ 2 _ rfl
            have p3 := hrz.cellQ 3 _ rfl
            have p4 := hrz.cellQ 4 _ rfl
            have p5 := hrz.cellQ 5 _ rfl
            clear hwz hbz hrz q0 q1 q2 q3 q4 q5 x3 y0 HJ
            by_cases h1 : 200 < d.p.link.term.length
            · have h1' : (200 : Int) < (d.p.link.term.length : Int) := by omega
              go_wp2
              go_ret
              exact GrPost.yes HZ.out.1
            have h1' : ¬ (200 : Int) < (d.p.link.term.length : Int) := by omega
            by_cases h2 : 200 < d.p.link.next.length
            · have h2' : (200 : Int) < (d.p.link.next.length : Int) := by omega
              go_wp2
              go_ret
              exact GrPost.yes HZ.out.1
            have h2' : ¬ (200 : Int) < (d.p.link.next.length : Int) := by omega
            by_cases h3 : 200 < d.p.link.posts.length
            · have h3' : (200 : Int) < (d.p.link.posts.length : Int) := by omega
              go_wp2
              go_ret
              exact GrPost.yes HZ.out.1
            have h3' : ¬ (200 : Int) < (d.p.link.posts.length : Int) := by omega
            by_cases h4 : 5000 < d.nd
            · have h4' : (5000 : Int) < (d.nd : Int) := by omega
              go_wp2
              go_ret
              exact GrPost.yes HZ.out.1
            have h4' : ¬ (5000 : Int) < (d.nd : Int) := by omega
            have CG := Lib.hid (great6_any d.ap d.np d.cp d.p.path wz (HPD.out.s.keep HZ.out.1) HWD.out)
            cases hg : Tree.great d.p.path with
            | true =>
              rw [hg] at CG
              clear hg
              go_wp2_with fail
              (with_reducible refine CG.out.mono ?_)
              rintro e w5 ⟨rfl, rfl⟩
              go_wp2
              go_ret
              exact GrPost.yes HZ.out.1
            | false =>
              rw [hg] at CG
              have HNJ := Lib.hid (HM.out.snoc HDJ.out ⟨by omega, by omega, by omega, by omega, hg⟩)
              clear hg
              go_wp2_with fail
              (with_reducible refine CG.out.mono ?_)
              rintro e w5 ⟨rfl, rfl⟩
              clear CG
              go_wp2
              go_roundw
              case rel => exact ⟨j + 1, by go_num, by omega, HZ, HNJ⟩
              case measure => simp [intOf]; omega
          · obtain rfl : j = r.n := by omega
            have HNX := Lib.hid (HN.out.snoc HRK.out (by omega) (HM.out.all hrl))
            go_wp2
            go_roundw
            case rel => exact ⟨k + 1, by go_num, by omega, HJ, HNX⟩
            case measure => simp [intOf]; omega
      · obtain rfl : k = n := by omega
        have HBD := Lib.hid (show a.Bd from ⟨HG.out, by rw [← HLL.out, List.length_map]; omega, fun l hl => (HN.out.all hln l (by rw [HLL.out]; exact hl)).1, fun l hl => (HN.out.all hln l (by rw [HLL.out]; exact hl)).2⟩)
        go_wp2
        go_ret
        exact ⟨false, rfl, HI.out.1, fun _ => HBD.out⟩
end Go.Proofs.YtfgpaepdlmnhaaaDoor
