/- ShaParts: the walk of the law. -/
import Derived.Test.YtcnjpcmadkkhfaaDoorShaBad
import Derived.Test.YtcnjpcmadkkhfaaDoorShaAdd3
import Derived.Test.YtcnjpcmadkkhfaaDoorPieces
import Derived.Deep.CutRange
import Derived.Deep.RegionLaw
namespace Go.Proofs.YtcnjpcmadkkhfaaDoor
set_option linter.unusedVariables false
open Go.RowKit

def Added2 (bl : List UInt8) (bn : Nat) (w : World) (e : Ending) (w' : World) : Prop :=
  ∃ p : Sha.St × List UInt8, p = Sha.proc Sha.begin_ bl ∧ ∃ A c, e = .returned (tv p.1 (.slice A p.2.length c) bn) ∧ w'.ownsRow w.heap.size 5 1 (.slice A p.2.length c) p.2.length (p.2.map bv) ∧ p.2.length ≤ c ∧ c ≤ maxLen ∧ Below w.heap.size w w'
theorem add_more (p : Sha.St × List UInt8) (al : List UInt8) (hp : p = Sha.proc Sha.begin_ al) (A : Option Addr) (c : Nat) (B : Option Addr) (m k : Nat) (l : List UInt8) (w : World) (hA : Rd w w.heap.size A (p.2.map bv)) (hc : p.2.length ≤ c) (hm : c ≤ maxLen)
    (hB : Rd w w.heap.size B (l.map bv)) (hl : l.length = m) (hk : m ≤ k) (hk2 : k ≤ maxLen) (hs : al.length + m ≤ 1000000) (ht : Tabs w) :
    Calls Tryd.prog 17 #[tv p.1 (.slice A p.2.length c) al.length, .slice B m k] w (Added2 (al ++ l) (al ++ l).length w) := by
  refine (add_own p.1 A p.2.length c p.2 al.length B m k l w hA rfl hc hm hB hl hk hk2 (by omega) ht.r ht.b).mono ?_
  rintro e w' ⟨q, hq, A2, c2, rfl, hr, hc2, hc2', hb⟩
  have hv : vld (al.length : Int) p.2.length = true := by
    rw [hp, Sha.proc_rest]; exact vld_of _ (by omega)
  have htk : takes (al.length : Int) p.2.length l.length = true := by
    unfold takes
    rw [hv, hl]
    simpa using (by omega : (m : Int) ≤ 1099511627776 - (al.length : Int))
  have e1 : effS p.1 (al.length : Int) p.2.length l.length = p.1 := by unfold effS; rw [htk]; rfl
  have e2 : effR p.2 (al.length : Int) p.2.length l.length = p.2 := by unfold effR; rw [htk]; rfl
  have e3 : effN (al.length : Int) p.2.length l.length = (al.length : Int) := by unfold effN; rw [htk]; rfl
  rw [e1, e2] at hq
  rw [e3]
  refine ⟨q, by rw [hq, hp, ← Sha.proc_append], A2, c2, ?_, hr, hc2, hc2', hb⟩
  rw [List.length_append]
  push_cast
  rfl
theorem add_more2 (p : Sha.St × List UInt8) (al bl : List UInt8) (an bn : Nat) (han : al.length = an) (hbn : bl.length = bn) (hp : p = Sha.proc Sha.begin_ al) (A : Option Addr) (c : Nat) (B : Option Addr) (m k : Nat) (l : List UInt8) (hbl : al ++ l = bl) (w : World) (hA : Rd w w.heap.size A (p.2.map bv)) (hc : p.2.length ≤ c) (hm : c ≤ maxLen)
    (hB : Rd w w.heap.size B (l.map bv)) (hl : l.length = m) (hk : m ≤ k) (hk2 : k ≤ maxLen) (hs : an + m ≤ 1000000) (ht : Tabs w) :
    Calls Tryd.prog 17 #[tv p.1 (.slice A p.2.length c) an, .slice B m k] w (Added2 bl bn w) := by
  subst han; subst hbl; subst hbn
  exact add_more p al hp A c B m k l w hA hc hm hB hl hk hk2 hs ht
theorem added_end2 (p : Sha.St × List UInt8) (l : List UInt8) (bn : Nat) (hbn : l.length = bn) (hp : p = Sha.proc Sha.begin_ l) (A : Option Addr) (c : Nat) (w : World) (hA : Rd w w.heap.size A (p.2.map bv)) (hc : p.2.length ≤ c) (hm : c ≤ maxLen) (hl : bn ≤ 1000000) (ht : Tabs w) (S : List UInt8) (hS : Sha.sum l = S) :
    Calls Tryd.prog 18 #[tv p.1 (.slice A p.2.length c) bn] w fun e w' => e = .returned (sv S) ∧ Below w.heap.size w w' := by
  subst hbn; subst hS
  exact added_end p l hp A c w hA hc hm (by omega) ht
theorem rd_not_box {w wd : World} {g B : Nat} {s : Sha.St} {v : Value} {n : Int} {A : Option Addr} {l : List UInt8} (h : TRow w g s v n) (hv : ∀ b, v ≠ bv b) (hr : Rd w B A (l.map bv)) (hd : ∀ k : Nat, k ≠ g → wd.heap[k]? = w.heap[k]?) : Rd wd B A (l.map bv) := by
  cases l with
  | nil => exact Rd.nil
  | cons x t =>
    obtain ⟨b, off, rfl, hb, hc⟩ := hr (by simp)
    have h0 := hc 0 (bv x) rfl
    have hne : b ≠ g := by
      rintro rfl
      rw [Nat.add_zero] at h0
      have hlt : off < 10 := by
        rcases Nat.lt_or_ge off 10 with h1 | h1
        · exact h1
        · unfold TRow Row at h
          simp [World.cell?, h, tc, show ¬ off < 10 by omega] at h0
      have h2 := h.cellQ off
      have h3 : ∃ u, (tc s v n).toArray[off]? = some u ∧ ∀ b, u ≠ bv b := by
        rcases (show off = 0 ∨ off = 1 ∨ off = 2 ∨ off = 3 ∨ off = 4 ∨ off = 5 ∨ off = 6 ∨ off = 7 ∨ off = 8 ∨ off = 9 by omega) with rfl | rfl | rfl | rfl | rfl | rfl | rfl | rfl | rfl | rfl
        all_goals first
          | exact ⟨_, rfl, hv⟩
          | exact ⟨_, rfl, fun b hb => by injection hb with hb _; cases hb⟩
      obtain ⟨u, h4, h5⟩ := h3
      rw [h2 u h4] at h0
      injection h0 with h0
      exact h5 x h0
    intro _
    refine ⟨b, off, rfl, hb, fun j v' hv' => ?_⟩
    rw [World.cell?_of_block (show wd.heap[(⟨b, off + j, none⟩ : Addr).block]? = w.heap[(⟨b, off + j, none⟩ : Addr).block]? from hd b hne)]
    exact hc j v' hv'
/-- The world within the law: the state's box, all bytes so far. -/
structure QRel (al : List UInt8) (g : Nat) (v : Value) (w wr : World) : Prop where
  below : Below w.heap.size w wr
  base : w.heap.size ≤ g
  own : wr.ownsRow (g + 1) 5 1 v al.length (al.map bv)
  st : ∃ (p : Sha.St × List UInt8) (A : Option Addr) (c : Nat), p = Sha.proc Sha.begin_ al ∧ TRow wr g p.1 (.slice A p.2.length c) al.length ∧ Rd wr wr.heap.size A (p.2.map bv) ∧ p.2.length ≤ c ∧ c ≤ maxLen
theorem QRel.call {al : List UInt8} {g : Nat} {v : Value} {w wr wz : World} (h : QRel al g v w wr) (hb : Below wr.heap.size wr wz) : QRel al g v w wz := by
  obtain ⟨p, A, c, h1, h2, h3, h4, h5⟩ := h.st
  exact ⟨h.below.trans (hb.mono h.below.size), h.base, own_keep h.own hb (Nat.le_refl _), p, A, c, h1, Row.belowS h2 hb (Nat.le_refl _), (h3.below' hb (Nat.le_refl _)).more hb.size, h4, h5⟩

set_option maxRecDepth 100000 in
set_option maxHeartbeats 4000000 in
theorem parts_any (A : Option Addr) (n c : Nat) (f : Nat → Piece) (w : World) (hr : RowsAt w A n f) (h0 : True) (hc : n ≤ c) (hm : c ≤ maxLen) (h1 : True) (ht : Tabs w) :
    Calls Tryd.prog 4 #[.slice A n c] w (Yes w) := by
  rw [maxLen_eq] at hm
  have HT := Lib.hid ht
  have HR := Lib.hid hr
  clear hr ht h0 h1
  go_enter Tryd.func4, Tryd.ntmps4
  go_wp2_with fail
  refine (new_any _ HT.out.b).mono ?_
  rintro e w1 ⟨rfl, hb1⟩
  have HB1 := Lib.hid hb1
  clear hb1
  go_wp2_with fail
  obtain ⟨g, hg⟩ : ∃ g, w1.heap.size = g := ⟨_, rfl⟩
  generalize hW : World.alloc w1 _ = W1
  have hq0 : QRel [] g (.slice none 0 0) w W1 := by
    rw [← hW, ← hg]
    refine ⟨HB1.out.alloc HB1.out.size _, HB1.out.size, own_nil _ _ _ _, Sha.proc Sha.begin_ [], none, 0, rfl, ?_, ?_, ?_, Nat.zero_le _⟩
    · rw [Sha.proc_short _ _ (by decide)]
      exact row_new w1 (tc Sha.begin_ (.slice none 0 0) 0).toArray _
    · rw [Sha.proc_short _ _ (by decide)]; exact Rd.nil
    · rw [Sha.proc_short _ _ (by decide)]; exact Nat.le_refl _
  have HQ0 := Lib.hid hq0
  rw [hg]
  clear hW hq0 hg HB1
  go_loopw [4, 5] (fun v i wr => ∃ (k : Nat) (al : List UInt8) (A4 : Option Addr) (c4 : Nat), k ≤ 20 ∧ i = .int .i64 k ∧ v = .slice A4 al.length c4 ∧ al.length ≤ 1000 * k ∧ QRel al g v w wr) (fun _ i _ => 20 - (intOf i).toNat)
  case atStart => exact ⟨0, [], none, 0, by omega, rfl, rfl, Nat.le_refl _, HQ0.out⟩
  clear HQ0
  case round =>
    obtain ⟨k, al, A4, c4, hk20, rfl, rfl, hal, hq⟩ := hrel
    have HQ := Lib.hid hq
    clear hq
    obtain ⟨an, han⟩ : ∃ x, al.length = x := ⟨_, rfl⟩
    rw [han] at hal ⊢
    have HAN := Lib.hid han
    clear han
    by_cases hkn : k < n
    · by_cases hk : k < 20
      · obtain ⟨b, off, rfl, hb, hrows⟩ := HR.out (by omega)
        obtain ⟨hcell, hpc⟩ := hrows k hkn
        obtain ⟨x, hx⟩ : ∃ x, f k = x := ⟨_, rfl⟩
        rw [hx] at hcell hpc
        have HP := Lib.hid hpc
        have hxc : ∀ W : World, Below w.heap.size w W → W.cell? ⟨b, off + k, none⟩ = some (.slice x.a x.n x.c) := fun W hW => (hW.cell (p := ⟨b, off + k, none⟩) hb).trans hcell
        have HXC := Lib.hid hxc
        have x0 := hxc wr HQ.out.below
        clear hrows hcell hpc hx hxc
        by_cases hx1 : x.n ≤ 1000
        · obtain ⟨p, PA, pc, hp, hbox, hprd, hpc1, hpc2⟩ := HQ.out.st
          rw [HAN.out] at hbox
          have HPP := Lib.hid (And.intro hp (And.intro hbox (And.intro hprd (And.intro hpc1 hpc2))))
          have HG := Lib.hid hbox.lt
          obtain ⟨c0, c1, c2, c3, c4', c5, c6, c7, c8, c9⟩ := TRow.ten hbox
          have aten := fun (o : Obj) => TRow.ten (Row.alloc hbox o)
          have e0 := fun o => (aten o).c0
          have e1 := fun o => (aten o).c1
          have e2 := fun o => (aten o).c2
          have e3 := fun o => (aten o).c3
          have e4 := fun o => (aten o).c4
          have e5 := fun o => (aten o).c5
          have e6 := fun o => (aten o).c6
          have e7 := fun o => (aten o).c7
          have e8 := fun o => (aten o).c8
          have e9 := fun o => (aten o).c9
          have ax := fun (o : Obj) => HXC.out (wr.alloc o) (HQ.out.below.alloc HQ.out.below.size o)
          have hxrd := HP.out.rd
          have HAL := Lib.hid hal
          obtain ⟨bl, hbl⟩ : ∃ z, al ++ x.l = z := ⟨_, rfl⟩
          obtain ⟨bn, hbn⟩ : ∃ z, an + x.n = z := ⟨_, rfl⟩
          have hbln : bl.length = bn := by rw [← hbl, List.length_append, HAN.out, HP.out.len, hbn]
          have HBL := Lib.hid (And.intro hbl (And.intro hbln hbn))
          have hbnle : bn ≤ 21000 := by omega
          clear hbl hbn hbln
          clear hp hbox hprd hpc1 hpc2 aten x0 hxrd
          have x0 := HXC.out wr HQ.out.below
          go_wp2_with fail
          go_cut [] from 7 to 57 (fun wx => ∃ (q : Sha.St × List UInt8) (QA : Option Addr) (qc : Nat) (wy : World), q = Sha.proc Sha.begin_ bl ∧ Below wr.heap.size wr wy ∧ TRow wx g q.1 (.slice QA q.2.length qc) bn ∧ wx.ownsRow wr.heap.size 5 1 (.slice QA q.2.length qc) q.2.length (q.2.map bv) ∧ q.2.length ≤ qc ∧ qc ≤ maxLen ∧ wx.heap.size = wy.heap.size ∧ Below w.heap.size w wx ∧ wx.ownsRow (g + 1) 5 1 (.slice A4 an c4) an (al.map bv))
          case first =>
            go_region_law (first
              | (refine st_of (by simp [Region.wanted]) (wp_app (.tmp 24) (.tmp 28) 22 rfl _ 5 1 1 bytesT _ 0 [] rfl (own_drew (own_empty wr 5 1 (Nat.le_refl _))) w.heap.size x.a x.n x.c (x.l.map bv) rfl ((HP.out.rd.below' HQ.out.below (Nat.le_refl _)).alloc HQ.out.below.size _).drew (by simpa using HP.out.len) (one_bv _) (by rw [maxLen_eq]; omega) (by omega) (by show _ ≤ (wr.alloc _).heap.size; unfold World.alloc; simp) ?_); intro A6 c6' w6 hown6 hg6 hat6 hb6' hd6 hd6'; simp only [Nat.zero_add, List.nil_append] at hown6 hd6; have HR6 := Lib.hid (And.intro (Rd.of_own hown6) (And.intro hd6 hd6')); have hb6 : Below wr.heap.size wr w6 := ((Below.refl _ wr).alloc (Nat.le_refl _) _).trans (bdrew hb6'); have HB6 := Lib.hid hb6; obtain ⟨y0, y1, y2, y3, y4, y5, y6, y7, y8, y9⟩ := TRow.ten (Row.belowS HPP.out.2.1 hb6 (Nat.le_refl _)); clear hown6 hg6 hat6 hb6' hb6 hd6 hd6')
              | (go_simp; go_at_call 17; refine (add_more2 p al bl an bn HAN.out HBL.out.2.1 HPP.out.1 PA pc A6 x.n c6' x.l HBL.out.1 w6 ((HPP.out.2.2.1.below' HB6.out (Nat.le_refl _)).more HB6.out.size) HPP.out.2.2.2.1 HPP.out.2.2.2.2 HR6.out.1 HP.out.len HR6.out.2.1 HR6.out.2.2 (by rw [HBL.out.2.2]; omega) (HT.out.below (HQ.out.below.trans (HB6.out.mono HQ.out.below.size)))).mono ?_; rintro e w7 ⟨q, hq, QA, qc, rfl, hr7, hqc, hqc', hb7⟩; have HQ7 := Lib.hid (And.intro hq (And.intro hr7 (And.intro hqc hqc'))); have HB7 := Lib.hid (HB6.out.trans (hb7.mono HB6.out.size)); have hrow := Row.belowS HPP.out.2.1 HB7.out (Nat.le_refl _); obtain ⟨⟨_, t0⟩, ⟨_, t1⟩, ⟨_, t2⟩, ⟨_, t3⟩, ⟨_, t4⟩, ⟨_, t5⟩, ⟨_, t6⟩, ⟨_, t7⟩, ⟨_, t8⟩, ⟨_, t9⟩⟩ := hrow.ten' rfl; have z := hrow.frozen; have z0 := z 0; have z1 := z 1; have z2 := z 2; have z3 := z 3; have z4 := z 4; have z5 := z 5; have z6 := z 6; have z7 := z 7; have z8 := z 8; have z9 := z 9; have HROW := Lib.hid hrow; clear z hrow hq hr7 hqc hqc' hb7 y0 y1 y2 y3 y4 y5 y6 y7 y8 y9))
            all_goals
              generalize hwd : World.setCell (World.setCell (World.setCell (World.setCell (World.setCell (World.setCell (World.setCell (World.setCell (World.setCell (World.setCell w7 _ _) _ _) _ _) _ _) _ _) _ _) _ _) _ _) _ _) _ _ = wd
              have hsf : setFrom g w7 0 (tc q.1 (.slice QA q.2.length qc) bn) = wd := by
                simp only [tc, setFrom, Nat.zero_add, Nat.reduceAdd]
                with_reducible exact hwd
              have HS := Lib.hid hsf
              clear hwd hsf t0 t1 t2 t3 t4 t5 t6 t7 t8 t9 z0 z1 z2 z3 z4 z5 z6 z7 z8 z9
              go_wp2_with fail
              go_meet
              have hg1 := HQ.out.base
              have hbelow7 := HQ.out.below.trans (HB7.out.mono HQ.out.below.size)
              refine ⟨q, QA, qc, w7, HQ7.out.1, HB7.out, ?_, ?_, HQ7.out.2.2.1, HQ7.out.2.2.2, ?_, ?_, ?_⟩
              · rw [← HS.out]; exact Row.all HROW.out _ rfl
              · rw [← HS.out]
                exact own_setFrom (own_base HQ7.out.2.1 HB6.out.size) HG.out _ 0
              · rw [← HS.out, size_setFrom]
              · rw [← HS.out]; exact below_setFrom hg1 _ 0 hbelow7
              · rw [← HS.out]
                have ho := HQ.out.own
                rw [HAN.out] at ho
                exact own_setFrom (own_keep ho HB7.out (Nat.le_refl _)) (Nat.lt_succ_self g) _ 0
          case rest =>
            obtain ⟨q, QA, qc, wy, hq, hby, hrow, hrq, hqc, hqc', hsz, hbw, hown⟩ := hcut
            have HQ2 := Lib.hid (And.intro hq (And.intro hrq (And.intro hqc hqc')))
            have HROW := Lib.hid hrow
            have HBW := Lib.hid hbw
            have HO := Lib.hid hown
            have hglt2 := hrow.lt
            have x1 := HXC.out wc hbw
            have tmq : ((bn : Nat) : Int).tmod 64 = ((q.2.length : Nat) : Int) := by
              rw [hq, Sha.proc_rest, HBL.out.2.1, Int.tmod_eq_emod_of_nonneg (by omega)]
              omega
            obtain ⟨S, hS⟩ : ∃ S, Sha.sum bl = S := ⟨_, rfl⟩
            have HSS := Lib.hid hS
            have qs : ((str S).toList == (str S).toList) = true := by simp
            clear hS hq hby hrow hrq hqc hqc' hsz hbw hown c0 c1 c2 c3 c4' c5 c6 c7 c8 c9 e0 e1 e2 e3 e4 e5 e6 e7 e8 e9 ax x0
            go_wp2_with (first
              | (at_builtin; refine wl_app rfl (.tmp 31) (.tmp 35) 22 rfl _ 5 1 1 bytesT _ an _ rfl HO.out w.heap.size x.a x.n x.c (x.l.map bv) rfl (HP.out.rd.below' HBW.out (Nat.le_refl _)) (by simpa using HP.out.len) (one_bv _) (by rw [maxLen_eq]; omega) (by omega) hglt2 ?_; intro A8 c8 w8 hown8 hg8 hat8 hb8 hd8 hd8'; rw [HBL.out.2.2] at hown8 hd8 ⊢; rw [← List.map_append, HBL.out.1] at hown8; have HO8 := Lib.hid (And.intro hown8 (And.intro hd8 hd8')); have hrow8 := Row.below HROW.out hb8 (Nat.lt_succ_self g); have HROW8 := Lib.hid hrow8; have HB8 := Lib.hid hb8; have HQO := Lib.hid (own_apart HQ2.out.2.1 (fun k hk => (HQ.out.own.lt k (by rw [HAN.out]; exact hk)).2) hg8); obtain ⟨c0, c1, c2, c3, c4', c5, c6, c7, c8', c9⟩ := TRow.ten hrow8; clear hown8 hg8 hat8 hb8 hd8 hd8' hrow8 x1)
              | (go_at_call 18; have hw8 : Below w.heap.size w w8 := HBW.out.trans (HB8.out.mono (Nat.le_succ_of_le HQ.out.base)); refine (added_end2 q bl bn HBL.out.2.1 HQ2.out.1 QA qc w8 (Rd.of_own HQO.out) HQ2.out.2.2.1 HQ2.out.2.2.2 (by omega) (HT.out.below hw8) S HSS.out).mono ?_; rintro e w9 ⟨rfl, hb9⟩; have HB9 := Lib.hid hb9; have HW8 := Lib.hid hw8; clear hb9 hw8 c0 c1 c2 c3 c4' c5 c6 c7 c8' c9)
              | (go_at_call 15; refine (rsum_any A8 bn c8 bl w9 ((Rd.of_own HO8.out.1).below' HB9.out (Nat.le_refl _) |>.more HB9.out.size) HBL.out.2.1 HO8.out.2.1 HO8.out.2.2 (by omega)).mono ?_; rintro e w10 ⟨rfl, hb10⟩; rw [HSS.out]; have HB10 := Lib.hid (bt HB9.out hb10); clear hb10))
            go_roundw
            case rel =>
              refine ⟨k + 1, bl, A8, c8, by omega, by go_num, by rw [HBL.out.2.1], by have := HAL.out; have := HBL.out.2; omega, ?_⟩
              refine QRel.call ?_ HB10.out
              exact ⟨HW8.out, HQ.out.base, by rw [HBL.out.2.1]; exact HO8.out.1, q, QA, qc, HQ2.out.1, by rw [HBL.out.2.1]; exact HROW8.out, Rd.of_own HQO.out, HQ2.out.2.2.1, HQ2.out.2.2.2⟩
            case measure => simp [intOf]; omega
        · go_wp2
          go_roundw
          case rel => exact ⟨k + 1, al, A4, c4, by omega, by go_num, by rw [HAN.out], by rw [HAN.out]; omega, by rw [← HAN.out]; exact HQ.out⟩
          case measure => simp [intOf]; omega
      · go_wp2_with fail
        refine (knows_any _ (HT.out.below HQ.out.below)).mono ?_
        rintro e w4 ⟨rfl, hb4⟩
        go_wp2
        go_ret
        exact ⟨rfl, bt HQ.out.below hb4⟩
    · go_wp2_with fail
      refine (knows_any _ (HT.out.below HQ.out.below)).mono ?_
      rintro e w4 ⟨rfl, hb4⟩
      go_wp2
      go_ret
      exact ⟨rfl, bt HQ.out.below hb4⟩
end Go.Proofs.YtcnjpcmadkkhfaaDoor
