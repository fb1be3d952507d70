/- process, of the package that sums: all whole blocks, and what is left. No statement of the seat is proved here. -/
import Derived.Test.YtoiilhbjlfdfpaaDoorShaBlock
import Derived.Test.YtoiilhbjlfdfpaaDoorCells
import Derived.Deep.RegionWith
namespace Go.Proofs.YtoiilhbjlfdfpaaDoor
set_option linter.unusedVariables false
open Go.RowKit

/-- Eight words, as cells. -/
def ac (s : Sha.St) : Array Value := #[.int .u32 (nv s.a), .int .u32 (nv s.b), .int .u32 (nv s.c), .int .u32 (nv s.d), .int .u32 (nv s.e), .int .u32 (nv s.f), .int .u32 (nv s.g), .int .u32 (nv s.h)]
/-- A block of eight cells, of no element's own. -/
def Box (w : World) (b : Nat) (cs : Array Value) : Prop := w.heap[b]? = some (.cells cs 68 (0, 0))
theorem Box.cell {w : World} {b : Nat} {cs : Array Value} (h : Box w b cs) (j : Nat) (hj : j < cs.size) : w.cell? ⟨b, j, none⟩ = some cs[j] := by
  unfold Box at h
  simp [World.cell?, h, hj]
/-- The eight cells of such a block. -/
structure Eight (w : World) (b : Nat) (s : Sha.St) : Prop where
  c0 : w.cell? ⟨b, 0, none⟩ = some (.int .u32 (nv s.a))
  c1 : w.cell? ⟨b, 1, none⟩ = some (.int .u32 (nv s.b))
  c2 : w.cell? ⟨b, 2, none⟩ = some (.int .u32 (nv s.c))
  c3 : w.cell? ⟨b, 3, none⟩ = some (.int .u32 (nv s.d))
  c4 : w.cell? ⟨b, 4, none⟩ = some (.int .u32 (nv s.e))
  c5 : w.cell? ⟨b, 5, none⟩ = some (.int .u32 (nv s.f))
  c6 : w.cell? ⟨b, 6, none⟩ = some (.int .u32 (nv s.g))
  c7 : w.cell? ⟨b, 7, none⟩ = some (.int .u32 (nv s.h))
theorem Box.eight {w : World} {b : Nat} {s : Sha.St} (h : Box w b (ac s)) : Eight w b s :=
  ⟨h.cell 0 (Nat.lt_of_sub_eq_succ rfl), h.cell 1 (Nat.lt_of_sub_eq_succ rfl), h.cell 2 (Nat.lt_of_sub_eq_succ rfl), h.cell 3 (Nat.lt_of_sub_eq_succ rfl), h.cell 4 (Nat.lt_of_sub_eq_succ rfl), h.cell 5 (Nat.lt_of_sub_eq_succ rfl), h.cell 6 (Nat.lt_of_sub_eq_succ rfl), h.cell 7 (Nat.lt_of_sub_eq_succ rfl)⟩
theorem Box.frozen {w : World} {b : Nat} {cs : Array Value} (h : Box w b cs) (j : Nat) : w.frozen? ⟨b, j, none⟩ = false := by
  unfold Box at h
  simp [World.frozen?, h]
theorem Box.lt {w : World} {b : Nat} {cs : Array Value} (h : Box w b cs) : b < w.heap.size := by
  rcases Nat.lt_or_ge b w.heap.size with hlt | hge
  · exact hlt
  · unfold Box at h
    rw [Array.getElem?_eq_none hge] at h; cases h
theorem Box.below {w w' : World} {b B : Nat} {cs : Array Value} (h : Box w b cs) (hb : Below B w w') (hB : b < B) : Box w' b cs := by
  unfold Box at *
  rw [hb.block b hB]; exact h
theorem Box.set {w : World} {b : Nat} {cs : Array Value} (h : Box w b cs) (j : Nat) (u : Value) : Box (w.setCell ⟨b, j, none⟩ u) b (cs.setIfInBounds j u) := by
  unfold Box at *
  simp [World.setCell, Array.getElem?_modify, h]
theorem Box.far {w : World} {b : Nat} {cs : Array Value} (h : Box w b cs) (c j : Nat) (u : Value) (hc : b ≠ c) : Box (w.setCell ⟨c, j, none⟩ u) b cs := by
  unfold Box at *
  rw [Below.heap_setCell _ _ _ _ hc]; exact h
theorem Box.drew {w : World} {b : Nat} {cs : Array Value} (h : Box w b cs) : Box w.drew b cs := h
/-- Eight cells written, one behind the other. -/
def set8 (w : World) (b : Nat) (u0 u1 u2 u3 u4 u5 u6 u7 : Value) : World :=
  ((((((((w.setCell ⟨b, 0, none⟩ u0).setCell ⟨b, 1, none⟩ u1).setCell ⟨b, 2, none⟩ u2).setCell ⟨b, 3, none⟩ u3).setCell ⟨b, 4, none⟩ u4).setCell ⟨b, 5, none⟩ u5).setCell ⟨b, 6, none⟩ u6).setCell ⟨b, 7, none⟩ u7)
theorem Box.set8 {w : World} {b : Nat} {cs : Array Value} (h : Box w b cs) (hs : cs.size = 8) (u0 u1 u2 u3 u4 u5 u6 u7 : Value) : Box (set8 w b u0 u1 u2 u3 u4 u5 u6 u7) b #[u0, u1, u2, u3, u4, u5, u6, u7] := by
  have h8 := (((((((h.set 0 u0).set 1 u1).set 2 u2).set 3 u3).set 4 u4).set 5 u5).set 6 u6).set 7 u7
  have e : ((((((((cs.setIfInBounds 0 u0).setIfInBounds 1 u1).setIfInBounds 2 u2).setIfInBounds 3 u3).setIfInBounds 4 u4).setIfInBounds 5 u5).setIfInBounds 6 u6).setIfInBounds 7 u7) = #[u0, u1, u2, u3, u4, u5, u6, u7] := by
    obtain ⟨l⟩ := cs
    have hl : l.length = 8 := by simpa using hs
    clear h8 h hs
    match l, hl with
    | [a0, a1, a2, a3, a4, a5, a6, a7], _ => simp
  rw [e] at h8
  exact h8
theorem below_set8 {B : Nat} {v w : World} {b : Nat} (h : Below B v w) (hB : B ≤ b) (u0 u1 u2 u3 u4 u5 u6 u7 : Value) : Below B v (set8 w b u0 u1 u2 u3 u4 u5 u6 u7) :=
  ((((((((h.setCell hB _).setCell hB _).setCell hB _).setCell hB _).setCell hB _).setCell hB _).setCell hB _).setCell hB _)
theorem size_set8 (w : World) (b : Nat) (u0 u1 u2 u3 u4 u5 u6 u7 : Value) : (set8 w b u0 u1 u2 u3 u4 u5 u6 u7).heap.size = w.heap.size := by
  simp [set8, World.size_setCell]
theorem far_set8 {w : World} {b c : Nat} {cs : Array Value} (h : Box w b cs) (hc : b ≠ c) (u0 u1 u2 u3 u4 u5 u6 u7 : Value) : Box (set8 w c u0 u1 u2 u3 u4 u5 u6 u7) b cs :=
  ((((((((h.far _ _ _ hc).far _ _ _ hc).far _ _ _ hc).far _ _ _ hc).far _ _ _ hc).far _ _ _ hc).far _ _ _ hc).far _ _ _ hc)

theorem RoundsLie.below {w w' : World} {B : Nat} (h : RoundsLie w) (hb : Below B w w') (hB : w.heap.size ≤ B) : RoundsLie w' :=
  ⟨Nat.lt_of_lt_of_le h.1 hb.size, fun j hj => (hb.cell (p := ⟨1, j, none⟩) (Nat.lt_of_lt_of_le h.1 hB)).trans (h.2 j hj)⟩

/-- The world within process: the words' box, the result's variable. -/
structure PRel (s : Sha.St) (w wr : World) : Prop where
  below : Below w.heap.size w wr
  box : Box wr w.heap.size (ac s)
  res : ∃ cs, Box wr (w.heap.size + 1) cs ∧ cs.size = 8
theorem PRel.size {s : Sha.St} {w wr : World} (h : PRel s w wr) : w.heap.size + 2 ≤ wr.heap.size := by
  obtain ⟨cs, h1, _⟩ := h.res
  have := h1.lt
  omega
theorem PRel.call {s : Sha.St} {w wr wz : World} (h : PRel s w wr) (hb : Below wr.heap.size wr wz) : PRel s w wz := by
  obtain ⟨cs, h1, h2⟩ := h.res
  exact ⟨h.below.trans (hb.mono h.below.size), h.box.below hb h.box.lt, cs, h1.below hb h1.lt, h2⟩
theorem PRel.store {s : Sha.St} {w wr : World} (h : PRel s w wr) (t : Sha.St) : PRel t w (set8 wr w.heap.size (.int .u32 (nv t.a)) (.int .u32 (nv t.b)) (.int .u32 (nv t.c)) (.int .u32 (nv t.d)) (.int .u32 (nv t.e)) (.int .u32 (nv t.f)) (.int .u32 (nv t.g)) (.int .u32 (nv t.h))) := by
  obtain ⟨cs, h1, h2⟩ := h.res
  exact ⟨below_set8 h.below (Nat.le_refl _) _ _ _ _ _ _ _ _, h.box.set8 rfl _ _ _ _ _ _ _ _, cs, far_set8 h1 (by omega) _ _ _ _ _ _ _ _, h2⟩
theorem PRel.drew {s : Sha.St} {w wr : World} (h : PRel s w wr) : PRel s w wr.drew := ⟨h.below.drew, h.box, h.res⟩
theorem prel_start (s : Sha.St) (w : World) : PRel s w ((w.alloc (.cells (ac s) 68)).alloc (.cells (Array.replicate 8 (.int .u32 0)) 68)) := by
  obtain ⟨O1, h1⟩ : ∃ O, O = Obj.cells (ac s) 68 := ⟨_, rfl⟩
  obtain ⟨O2, h2⟩ : ∃ O, O = Obj.cells (Array.replicate 8 (.int .u32 0)) 68 := ⟨_, rfl⟩
  rw [← h1, ← h2]
  have s1 : (w.alloc O1).heap.size = w.heap.size + 1 := by unfold World.alloc; simp
  refine ⟨((Below.refl _ w).alloc (Nat.le_refl _) _).alloc (by rw [s1]; omega) _, ?_, Array.replicate 8 (.int .u32 0), ?_, by simp⟩
  · unfold Box
    rw [Below.heap_alloc _ _ _ (by rw [s1]; omega), h1]
    show (w.heap.push _)[w.heap.size]? = _
    simp
  · unfold Box
    rw [← s1, h2]
    generalize w.alloc O1 = w1
    show (w1.heap.push _)[w1.heap.size]? = _
    simp
def ProcPost (s : Sha.St) (l : List UInt8) (w : World) (e : Ending) (w' : World) : Prop :=
  ∃ A c, e = .returned (.tuple #[av (Sha.proc s l).1, .slice A (Sha.proc s l).2.length c]) ∧ Rd w' w.heap.size A ((Sha.proc s l).2.map bv) ∧ (Sha.proc s l).2.length ≤ c ∧ c ≤ maxLen ∧ Below w.heap.size w w'

set_option maxRecDepth 100000 in
set_option maxHeartbeats 4000000 in
theorem process_any (s : Sha.St) (A : Option Addr) (c : Nat) (l : List UInt8) (n : Nat) (hn : l.length = n) (hc : n ≤ c) (hm : c ≤ maxLen) (w : World) (hr : Rd w w.heap.size A (l.map bv)) (hk : RoundsLie w) :
    Calls Tryd.prog 66 #[av s, .slice A n c] w (ProcPost s l w) := by
  rw [maxLen_eq] at hm
  have HK := Lib.hid hk
  have H0 := Lib.hid hr
  have HN := Lib.hid hn
  clear hk hr hn
  go_enter Tryd.func66, Tryd.ntmps66
  go_wp2
  go_loopw [1] (fun v wr => ∃ (A' : Option Addr) (n' c' : Nat) (s' : Sha.St) (l' : List UInt8), v = .slice A' n' c' ∧ l'.length = n' ∧ n' ≤ c' ∧ c' ≤ 9223372036854775807 ∧ Rd wr w.heap.size A' (l'.map bv) ∧ Sha.proc s l = Sha.proc s' l' ∧ PRel s' w wr) (fun v _ => match v with | .slice _ n _ => n | _ => 0)
  case atStart => exact ⟨A, n, c, s, l, rfl, HN.out, hc, hm, H0.out.below (prel_start s w).below, rfl, prel_start s w⟩
  case round =>
    obtain ⟨A', n', c', s', l', rfl, hn', hc', hm', hr', he, h⟩ := hrel
    have HE := Lib.hid he
    have HL := Lib.hid hn'
    clear he hn'
    by_cases h64 : 64 ≤ n'
    · have h0 : l'.map bv ≠ [] := fun h => by
        have h2 : l' = [] := by simpa using h
        have h3 := HL.out
        rw [h2] at h3
        simp at h3; omega
      obtain ⟨b, off, rfl, hb, hcell⟩ := hr' h0
      have HR := Lib.hid hr'
      have HP := Lib.hid h
      obtain ⟨y0, y1, y2, y3, y4, y5, y6, y7⟩ := h.box.eight
      have hBs := h.below.size
      have hblk : ∀ (c'' : Nat) (wz : World), Rd wz w.heap.size (some ⟨b, off, none⟩) (l'.map bv) → w.heap.size ≤ wz.heap.size → RoundsLie wz → Calls Tryd.prog 74 #[av s', .slice (some ⟨b, off, none⟩) 64 c''] wz (BlockPost s' (l'.take 64) wz) := fun c'' wz g1 g2 g3 =>
        block_any s' _ c'' (l'.take 64) (by rw [List.length_take, HL.out]; omega) w.heap.size wz (by rw [List.map_take]; exact g1.take 64) g2 g3
      clear h hr' hcell h0
      go_wp2_with fail
      go_region_with (go_at_call 74; (with_reducible refine (hblk _ wr.drew HR.out.drew HP.out.drew.below.size (HK.out.below HP.out.drew.below (Nat.le_refl _))).mono ?_); rintro e w' ⟨rfl, hb'⟩; have HB := Lib.hid (bdrew hb'); have HP2 := Lib.hid (HP.out.call HB.out); obtain ⟨z0, z1, z2, z3, z4, z5, z6, z7⟩ := HP2.out.box.eight; have f0 := HP2.out.box.frozen 0; have f1 := HP2.out.box.frozen 1; have f2 := HP2.out.box.frozen 2; have f3 := HP2.out.box.frozen 3; have f4 := HP2.out.box.frozen 4; have f5 := HP2.out.box.frozen 5; have f6 := HP2.out.box.frozen 6; have f7 := HP2.out.box.frozen 7; obtain ⟨t, ht⟩ : ∃ t, Sha.block s' (l'.take 64) = t := ⟨_, rfl⟩; have HT := Lib.hid ht; rw [ht]; clear hblk hb' ht y0 y1 y2 y3 y4 y5 y6 y7 hb)
      all_goals
        generalize hwd : World.setCell (World.setCell (World.setCell (World.setCell (World.setCell (World.setCell (World.setCell (World.setCell w' _ _) _ _) _ _) _ _) _ _) _ _) _ _) _ _ = wd
        have HP3 := Lib.hid (show PRel t w wd from hwd ▸ HP2.out.store t)
        have hrd2 : Rd wd w.heap.size (some ⟨b, off, none⟩) (l'.map bv) := HR.out.keep fun p hp => (HP3.out.below.cell hp).trans (HP.out.below.cell hp).symm
        have HR2 := Lib.hid hrd2
        clear hwd hrd2 z0 z1 z2 z3 z4 z5 z6 z7 f0 f1 f2 f3 f4 f5 f6 f7
        go_wp2_with (first
          | (refine wl_cut_lo rfl 50 (.tmp 13) _ rfl 5 Tryd.underlying50 size_u8 (some ⟨b, off, none⟩) n' c' rfl .i64 64 rfl (by omega) (by omega) hc' w.heap.size _ HR2.out (by simpa using HL.out) ?_; intro A2 hr2; have HR3 := Lib.hid hr2; clear hr2))
        go_roundw
        case rel =>
          have h3 := HR3.out
          rw [← List.map_drop] at h3
          exact ⟨A2, n' - 64, c' - 64, t, l'.drop 64, rfl, by rw [List.length_drop, HL.out], by omega, by omega, h3, by rw [HE.out, Sha.proc_step s' l' (by rw [HL.out]; omega), HT.out], HP3.out⟩
        case measure => simp; omega
    · have hs := Sha.proc_short s' l' (by rw [HL.out]; omega)
      rw [← HE.out] at hs
      have HS := Lib.hid hs
      have HP := Lib.hid h
      have HR := Lib.hid hr'
      obtain ⟨y0, y1, y2, y3, y4, y5, y6, y7⟩ := h.box.eight
      obtain ⟨cs, r1, r2⟩ := h.res
      have q := fun j (hj : j < cs.size) => r1.cell j hj
      obtain ⟨p0, e0⟩ : ∃ u, wr.cell? ⟨w.heap.size + 1, 0, none⟩ = some u := ⟨_, q 0 (by omega)⟩
      obtain ⟨p1, e1⟩ : ∃ u, wr.cell? ⟨w.heap.size + 1, 1, none⟩ = some u := ⟨_, q 1 (by omega)⟩
      obtain ⟨p2, e2⟩ : ∃ u, wr.cell? ⟨w.heap.size + 1, 2, none⟩ = some u := ⟨_, q 2 (by omega)⟩
      obtain ⟨p3, e3⟩ : ∃ u, wr.cell? ⟨w.heap.size + 1, 3, none⟩ = some u := ⟨_, q 3 (by omega)⟩
      obtain ⟨p4, e4⟩ : ∃ u, wr.cell? ⟨w.heap.size + 1, 4, none⟩ = some u := ⟨_, q 4 (by omega)⟩
      obtain ⟨p5, e5⟩ : ∃ u, wr.cell? ⟨w.heap.size + 1, 5, none⟩ = some u := ⟨_, q 5 (by omega)⟩
      obtain ⟨p6, e6⟩ : ∃ u, wr.cell? ⟨w.heap.size + 1, 6, none⟩ = some u := ⟨_, q 6 (by omega)⟩
      obtain ⟨p7, e7⟩ : ∃ u, wr.cell? ⟨w.heap.size + 1, 7, none⟩ = some u := ⟨_, q 7 (by omega)⟩
      have f0 := r1.frozen 0
      have f1 := r1.frozen 1
      have f2 := r1.frozen 2
      have f3 := r1.frozen 3
      have f4 := r1.frozen 4
      have f5 := r1.frozen 5
      have f6 := r1.frozen 6
      have f7 := r1.frozen 7
      clear h hr' hs q r1 r2
      go_wp2
      refine bodyPost_ret (v := .tuple #[av s', .slice A' n' c']) (by simp [results, Tryd.results66, go_sem, e0, e1, e2, e3, e4, e5, e6, e7]) rfl ?_
      have hb1 := below_set8 (b := w.heap.size + 1) HP.out.below (by omega) (.int .u32 (nv s'.a)) (.int .u32 (nv s'.b)) (.int .u32 (nv s'.c)) (.int .u32 (nv s'.d)) (.int .u32 (nv s'.e)) (.int .u32 (nv s'.f)) (.int .u32 (nv s'.g)) (.int .u32 (nv s'.h))
      refine ⟨A', c', by rw [HS.out]; simp [HL.out], ?_, by rw [HS.out]; simp [HL.out]; omega, by rw [maxLen_eq]; omega, hb1⟩
      rw [HS.out]
      exact HR.out.keep fun p hp => (hb1.cell hp).trans (HP.out.below.cell hp).symm
end Go.Proofs.YtoiilhbjlfdfpaaDoor
