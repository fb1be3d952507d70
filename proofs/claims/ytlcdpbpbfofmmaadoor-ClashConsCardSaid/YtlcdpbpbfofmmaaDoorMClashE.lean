/- MClashE: several texts of this claim in one file. No statement of the seat is proved here. -/
import Derived.Test.YtlcdpbpbfofmmaaDoorClashLeaf
namespace Go.Proofs.YtlcdpbpbfofmmaaDoor
set_option maxRecDepth 100000
set_option linter.unusedVariables false
open Go.RowKit
theorem Row.keep {w w' : World} {b : Nat} {cs : Array Value} {t : TypeId} (h : Row w b cs t) (hb : Below w.heap.size w w') : Row w' b cs t := h.belowS hb (Nat.le_refl _)
/-- A clash that was told, in a block. -/
structure CBox (w : World) (b : Nat) (A : Option Addr) (n c : Nat) (B : Option Addr) (m k : Nat) (r : Option (List UInt8 × List UInt8)) : Prop where
  row : Row w b #[.slice A n c, .slice B m k] 29
  ba : Bs w A n c (cl1 r)
  bb : Bs w B m k (cl2 r)
section
variable {w w' : World} {b n c m k : Nat} {A B : Option Addr} {r : Option (List UInt8 × List UInt8)}
theorem CBox.keep (h : CBox w b A n c B m k r) (hb : Below w.heap.size w w') : CBox w' b A n c B m k r := ⟨h.row.keep hb, h.ba.keep hb, h.bb.keep hb⟩
theorem CBox.new {L : Nat} (h1 : Fr w L A n c (cl1 r)) (h2 : Fr w L B m k (cl2 r)) : CBox (w.alloc (.cells #[.slice A n c, .slice B m k] 29)) w.heap.size A n c B m k r :=
  ⟨row_new w _ _, h1.bs.keep ((Below.refl _ w).alloc (Nat.le_refl _) _), h2.bs.keep ((Below.refl _ w).alloc (Nat.le_refl _) _)⟩
theorem CBox.x0 (h : CBox w b A n c B m k r) : w.cell? ⟨b, 0, none⟩ = some (.slice A n c) := h.row.cellQ 0 _ rfl
theorem CBox.x1 (h : CBox w b A n c B m k r) : w.cell? ⟨b, 1, none⟩ = some (.slice B m k) := h.row.cellQ 1 _ rfl
/-- A clash that was told is one. -/
theorem CBox.is (h : CBox w b A n c B m k r) (hs : r.isSome = true) (hcl : ∀ x, r = some x → clashB x.1 x.2 = true ∧ x.1.length ≤ 1000000 ∧ x.2.length ≤ 1000000) (ht : Tabs w) :
    Calls Tryd.prog 20 #[.agg #[.slice A n c, .slice B m k]] w (RetB true w) := by
  obtain ⟨x, rfl⟩ := Option.isSome_iff_exists.1 hs
  obtain ⟨h1, h2, h3⟩ := hcl x rfl
  have ha : Bs w A n c x.1 := h.ba
  have hb : Bs w B m k x.2 := h.bb
  have := is_any A n c B m k x.1 x.2 w ha.rd ha.len ha.cap ha.max (by rw [← ha.len]; exact h2) hb.rd hb.len hb.cap hb.max (by rw [← hb.len]; exact h3) ht
  rw [h1] at this
  exact this
end
/-- A clash, of lists that are not too long. -/
def CSmall (r : Option (List UInt8 × List UInt8)) : Prop := ∀ x, r = some x → clashB x.1 x.2 = true ∧ x.1.length ≤ 1000000 ∧ x.2.length ≤ 1000000
theorem CSmall.none : CSmall none := fun x h => by cases h
theorem lfB_small {f : Nat → Piece} {n : Nat} {i : Int} {leaf : List UInt8} {p : List (List UInt8)} (hl : leaf.length ≤ 1000) (hf : ∀ x ∈ raws f n, x.length ≤ 1000) : CSmall (lfB f n i leaf p) := fun r h => by
  refine ⟨lfB_clash h, ?_⟩
  unfold lfB at h
  split at h
  · rename_i hfb
    unfold fairB at hfb
    rw [Bool.and_eq_true, Bool.and_eq_true, Bool.and_eq_true] at hfb
    exact lf_len leaf hl _ _ _ r hf (all32_of hfb.2.2.1) h
  · cases h
theorem raws_small {w : World} {A : Option Addr} {n : Nat} {f : Nat → Piece} (hr : RowsAt w A n f) {k : Nat} (hs : ∀ i, i < n → (f i).n ≤ k) : ∀ x ∈ raws f n, x.length ≤ k := fun x hx => by
  unfold raws at hx
  obtain ⟨i, hi, rfl⟩ := List.mem_map.1 hx
  have hi2 := List.mem_range.1 hi
  have := hs i hi2
  rw [(rows_pc hr hi2).len]; exact this
end Go.Proofs.YtlcdpbpbfofmmaaDoor

namespace Go.Proofs.YtlcdpbpbfofmmaaDoor
set_option maxRecDepth 100000
set_option linter.unusedVariables false
open Go.RowKit
theorem raws_eq {f g : Nat → Piece} {n : Nat} : raws f n = raws g n ↔ ∀ j, j < n → (f j).l = (g j).l := by
  constructor
  · intro h j hj
    have h1 := raws_at f n j hj
    rw [h, raws_at g n j hj] at h1
    injection h1 with h1
    exact h1.symm
  · intro h
    unfold raws
    exact List.map_congr_left fun i hi => h i (List.mem_range.1 hi)
set_option maxHeartbeats 4000000 in
theorem like_ne (A : Option Addr) (n c : Nat) (B : Option Addr) (m k : Nat) (w : World) (hc : n ≤ c ∧ c ≤ maxLen) (hk : m ≤ k ∧ k ≤ maxLen) (hne : n ≠ m) :
    Calls Tryd.prog 23 #[.slice A n c, .slice B m k] w fun e w' => e = .returned (.bool false) ∧ w = w' := by
  obtain ⟨hc1, hc2⟩ := hc
  obtain ⟨hk1, hk2⟩ := hk
  rw [maxLen_eq] at hc2 hk2
  have h2 : ((n : Int) != (m : Int)) = true := by rw [bne, beq_eq_false_iff_ne.2 (by omega : (n : Int) ≠ (m : Int))]; rfl
  go_enter Tryd.func23, Tryd.ntmps23
  go_wp2
  go_ret
  exact ⟨rfl, rfl⟩
set_option maxHeartbeats 8000000 in
theorem like_any (A : Option Addr) (n c : Nat) (f : Nat → Piece) (B : Option Addr) (k : Nat) (g : Nat → Piece) (w : World) (hra : RowsAt w A n f) (hca : n ≤ c ∧ c ≤ maxLen) (hrb : RowsAt w B n g) (hcb : n ≤ k ∧ k ≤ maxLen) :
    Calls Tryd.prog 23 #[.slice A n c, .slice B n k] w (BoolPost (decide (raws f n = raws g n)) w) := by
  obtain ⟨hc1, hc2⟩ := hca
  obtain ⟨hk1, hk2⟩ := hcb
  rw [maxLen_eq] at hc2 hk2
  have HA := Lib.hid hra
  have HB := Lib.hid hrb
  clear hra hrb
  go_enter Tryd.func23, Tryd.ntmps23
  go_wp2
  go_loopw [5] (fun i wr => ∃ j : Nat, j ≤ n ∧ i = .int .i64 j ∧ Hid (∀ t, t < j → (f t).l = (g t).l) ∧ Below w.heap.size w wr) (fun i _ => n - (intOf i).toNat)
  case atStart => exact ⟨0, by omega, rfl, Lib.hid (fun t h => by omega), Below.refl _ _⟩
  case round =>
    obtain ⟨j, hj, rfl, hr, hbel⟩ := hrel
    have HBL := Lib.hid hbel
    clear hbel
    by_cases hlt : j < n
    · obtain ⟨b, off, rfl, hb, hrows⟩ := HA.out (by omega)
      obtain ⟨b2, off2, rfl, hb2, hrows2⟩ := HB.out (by omega)
      obtain ⟨x0, hpx⟩ := hrows j hlt
      obtain ⟨y0, hpy⟩ := hrows2 j hlt
      obtain ⟨x, hx⟩ : ∃ q, f j = q := ⟨_, rfl⟩
      obtain ⟨y, hy⟩ : ∃ q, g j = q := ⟨_, rfl⟩
      rw [hx] at x0 hpx
      rw [hy] at y0 hpy
      have X0 := Lib.hid (show ∀ W, Below wr.heap.size wr W → W.cell? ⟨b, off + j, none⟩ = some (.slice x.a x.n x.c) from fun W hW => ((bt HBL.out hW).cell (p := ⟨b, off + j, none⟩) hb).trans x0)
      have X1 := Lib.hid (show ∀ W, Below wr.heap.size wr W → W.cell? ⟨b2, off2 + j, none⟩ = some (.slice y.a y.n y.c) from fun W hW => ((bt HBL.out hW).cell (p := ⟨b2, off2 + j, none⟩) hb2).trans y0)
      have XB := Lib.hid (show ∀ W, Below wr.heap.size wr W → Bs W x.a x.n x.c x.l from fun W hW => Bs.keep ⟨hpx.rd, hpx.len, hpx.cap, hpx.max⟩ (bt HBL.out hW))
      have YB := Lib.hid (show ∀ W, Below wr.heap.size wr W → Bs W y.a y.n y.c y.l from fun W hW => Bs.keep ⟨hpy.rd, hpy.len, hpy.cap, hpy.max⟩ (bt HBL.out hW))
      have HXY := Lib.hid (And.intro hx hy)
      clear hrows hrows2 hpx hpy x0 y0 hx hy
      by_cases he : x.l = y.l
      · have HNE := Lib.hid (show (!decide (x.l = y.l)) = false by rw [decide_eq_true he]; rfl)
        have hnext := Lib.hid (show ∀ t, t < j + 1 → (f t).l = (g t).l from fun t ht => by
          by_cases e : t = j
          · subst e
            rw [HXY.out.1, HXY.out.2]; exact he
          · exact hr.out t (by omega))
        clear he
        go_wp2_with fail
        refine Free.wp_free_l 11 (fun W => Below wr.heap.size wr W) [Free.kc (.slice (some ⟨b, off, none⟩) n c), Free.kc (.int .i64 (j : Int)), Free.kc (.pointer (some ⟨b, off + j, none⟩)), Free.kc (.slice x.a x.n x.c), Free.kc (sv x.l), Free.kc (.slice (some ⟨b2, off2, none⟩) n k), Free.kc (.int .i64 (j : Int)), Free.kc (.pointer (some ⟨b2, off2 + j, none⟩)), Free.kc (.slice y.a y.n y.c), Free.kc (sv y.l), Free.kc (.bool false)] (by kernel_rfl) (by kernel_rfl) (by decide) (Below.refl _ _).drew (fun w w' h g => bt h g) ?_ ?_
        · refine Free.forall_succ (Free.forall_succ (Free.forall_succ (Free.forall_succ (Free.forall_succ (Free.forall_succ (Free.forall_succ (Free.forall_succ (Free.forall_succ (Free.forall_succ (Free.forall_succ (Free.forall_zero) ?_) ?_) ?_) ?_) ?_) ?_) ?_) ?_) ?_) ?_) ?_
          · exact Free.ob_plain _ rfl rfl fun vals wq hC hd => (by exact Free.d_move rfl (by kernel_rfl) rfl)
          · exact Free.ob_plain _ rfl rfl fun vals wq hC hd => (by exact Free.d_move rfl (by kernel_rfl) rfl)
          · exact Free.ob_plain _ rfl rfl fun vals wq hC hd => (by exact Free.d_indexAddr rfl (Eq.trans (b := vals 0) (by kernel_rfl) (hd 0 (by kernel_rfl))) (Eq.trans (b := vals 1) (by kernel_rfl) (hd 1 (by kernel_rfl))) (run_idx 22 Tryd.underlying22 (by kernel_rfl) b off n c j _ rfl (by omega)) rfl)
          · exact Free.ob_plain _ rfl rfl fun vals wq hC hd => (by exact Free.d_load rfl (Eq.trans (b := vals 2) (by kernel_rfl) (hd 2 (by kernel_rfl))) (by have hcc := X0.out wq hC; go_simp) rfl)
          · exact Free.ob_plain _ rfl rfl fun vals wq hC hd => (by exact Free.d_conv rfl (Eq.trans (b := vals 3) (by kernel_rfl) (hd 3 (by kernel_rfl))) (run_str (P := Tryd.prog) 23 9 5 Tryd.underlying23 Tryd.underlying5 Tryd.underlying9 x.a _ _ _ x.l (XB.out wq hC).rd (XB.out wq hC).len) (Below.refl _ _) rfl)
          · exact Free.ob_plain _ rfl rfl fun vals wq hC hd => (by exact Free.d_move rfl (by kernel_rfl) rfl)
          · exact Free.ob_plain _ rfl rfl fun vals wq hC hd => (by exact Free.d_move rfl (by kernel_rfl) rfl)
          · exact Free.ob_plain _ rfl rfl fun vals wq hC hd => (by exact Free.d_indexAddr rfl (Eq.trans (b := vals 5) (by kernel_rfl) (hd 5 (by kernel_rfl))) (Eq.trans (b := vals 6) (by kernel_rfl) (hd 6 (by kernel_rfl))) (run_idx 22 Tryd.underlying22 (by kernel_rfl) b2 off2 n k j _ rfl (by omega)) rfl)
          · exact Free.ob_plain _ rfl rfl fun vals wq hC hd => (by exact Free.d_load rfl (Eq.trans (b := vals 7) (by kernel_rfl) (hd 7 (by kernel_rfl))) (by have hcc := X1.out wq hC; go_simp) rfl)
          · exact Free.ob_plain _ rfl rfl fun vals wq hC hd => (by exact Free.d_conv rfl (Eq.trans (b := vals 8) (by kernel_rfl) (hd 8 (by kernel_rfl))) (run_str (P := Tryd.prog) 23 9 5 Tryd.underlying23 Tryd.underlying5 Tryd.underlying9 y.a _ _ _ y.l (YB.out wq hC).rd (YB.out wq hC).len) (Below.refl _ _) rfl)
          · exact Free.ob_plain _ rfl rfl fun vals wq hC hd => (by exact Free.d_bin rfl (Eq.trans (b := vals 4) (by kernel_rfl) (hd 4 (by kernel_rfl))) (Eq.trans (b := vals 9) (by kernel_rfl) (hd 9 (by kernel_rfl))) (by go_simp) (by rw [run_neq_str', HNE.out]) rfl)
        · intro vals wq hC hd
          have e0 : vals 0 = (.slice (some ⟨b, off, none⟩) n c) := hd 0 (by decide)
          have e1 : vals 1 = (.int .i64 (j : Int)) := hd 1 (by decide)
          have e2 : vals 2 = (.pointer (some ⟨b, off + j, none⟩)) := hd 2 (by decide)
          have e3 : vals 3 = (.slice x.a x.n x.c) := hd 3 (by decide)
          have e4 : vals 4 = (sv x.l) := hd 4 (by decide)
          have e5 : vals 5 = (.slice (some ⟨b2, off2, none⟩) n k) := hd 5 (by decide)
          have e6 : vals 6 = (.int .i64 (j : Int)) := hd 6 (by decide)
          have e7 : vals 7 = (.pointer (some ⟨b2, off2 + j, none⟩)) := hd 7 (by decide)
          have e8 : vals 8 = (.slice y.a y.n y.c) := hd 8 (by decide)
          have e9 : vals 9 = (sv y.l) := hd 9 (by decide)
          have e10 : vals 10 = (.bool false) := hd 10 (by decide)
          simp only [Free.frameOf, List.range, List.range.loop, List.foldl, Free.dstOf, List.getElem?_toArray, List.getElem?_cons_zero, List.getElem?_cons_succ, Option.bind_some, Act.put, List.setIfInBounds_toArray, List.set_cons_zero, List.set_cons_succ, e0, e1, e2, e3, e4, e5, e6, e7, e8, e9, e10]
          refine wpList_nil ?_
          clear hd e0 e1 e2 e3 e4 e5 e6 e7 e8 e9 e10
          have HBQ := Lib.hid (bt HBL.out hC)
          clear hC
          go_wp2
          go_roundw
          case rel => exact ⟨j + 1, by omega, by go_num, hnext, HBQ.out⟩
          case measure => simp [intOf]; omega
      · have HNE := Lib.hid (show (!decide (x.l = y.l)) = true by rw [decide_eq_false he]; rfl)
        have hfin := Lib.hid (show decide (raws f n = raws g n) = false from decide_eq_false fun h => he (by have := raws_eq.1 h j hlt; rw [HXY.out.1, HXY.out.2] at this; exact this))
        clear he
        go_wp2_with fail
        refine Free.wp_free_l 11 (fun W => Below wr.heap.size wr W) [Free.kc (.slice (some ⟨b, off, none⟩) n c), Free.kc (.int .i64 (j : Int)), Free.kc (.pointer (some ⟨b, off + j, none⟩)), Free.kc (.slice x.a x.n x.c), Free.kc (sv x.l), Free.kc (.slice (some ⟨b2, off2, none⟩) n k), Free.kc (.int .i64 (j : Int)), Free.kc (.pointer (some ⟨b2, off2 + j, none⟩)), Free.kc (.slice y.a y.n y.c), Free.kc (sv y.l), Free.kc (.bool true)] (by kernel_rfl) (by kernel_rfl) (by decide) (Below.refl _ _).drew (fun w w' h g => bt h g) ?_ ?_
        · refine Free.forall_succ (Free.forall_succ (Free.forall_succ (Free.forall_succ (Free.forall_succ (Free.forall_succ (Free.forall_succ (Free.forall_succ (Free.forall_succ (Free.forall_succ (Free.forall_succ (Free.forall_zero) ?_) ?_) ?_) ?_) ?_) ?_) ?_) ?_) ?_) ?_) ?_
          · exact Free.ob_plain _ rfl rfl fun vals wq hC hd => (by exact Free.d_move rfl (by kernel_rfl) rfl)
          · exact Free.ob_plain _ rfl rfl fun vals wq hC hd => (by exact Free.d_move rfl (by kernel_rfl) rfl)
          · exact Free.ob_plain _ rfl rfl fun vals wq hC hd => (by exact Free.d_indexAddr rfl (Eq.trans (b := vals 0) (by kernel_rfl) (hd 0 (by kernel_rfl))) (Eq.trans (b := vals 1) (by kernel_rfl) (hd 1 (by kernel_rfl))) (run_idx 22 Tryd.underlying22 (by kernel_rfl) b off n c j _ rfl (by omega)) rfl)
          · exact Free.ob_plain _ rfl rfl fun vals wq hC hd => (by exact Free.d_load rfl (Eq.trans (b := vals 2) (by kernel_rfl) (hd 2 (by kernel_rfl))) (by have hcc := X0.out wq hC; go_simp) rfl)
          · exact Free.ob_plain _ rfl rfl fun vals wq hC hd => (by exact Free.d_conv rfl (Eq.trans (b := vals 3) (by kernel_rfl) (hd 3 (by kernel_rfl))) (run_str (P := Tryd.prog) 23 9 5 Tryd.underlying23 Tryd.underlying5 Tryd.underlying9 x.a _ _ _ x.l (XB.out wq hC).rd (XB.out wq hC).len) (Below.refl _ _) rfl)
          · exact Free.ob_plain _ rfl rfl fun vals wq hC hd => (by exact Free.d_move rfl (by kernel_rfl) rfl)
          · exact Free.ob_plain _ rfl rfl fun vals wq hC hd => (by exact Free.d_move rfl (by kernel_rfl) rfl)
          · exact Free.ob_plain _ rfl rfl fun vals wq hC hd => (by exact Free.d_indexAddr rfl (Eq.trans (b := vals 5) (by kernel_rfl) (hd 5 (by kernel_rfl))) (Eq.trans (b := vals 6) (by kernel_rfl) (hd 6 (by kernel_rfl))) (run_idx 22 Tryd.underlying22 (by kernel_rfl) b2 off2 n k j _ rfl (by omega)) rfl)
          · exact Free.ob_plain _ rfl rfl fun vals wq hC hd => (by exact Free.d_load rfl (Eq.trans (b := vals 7) (by kernel_rfl) (hd 7 (by kernel_rfl))) (by have hcc := X1.out wq hC; go_simp) rfl)
          · exact Free.ob_plain _ rfl rfl fun vals wq hC hd => (by exact Free.d_conv rfl (Eq.trans (b := vals 8) (by kernel_rfl) (hd 8 (by kernel_rfl))) (run_str (P := Tryd.prog) 23 9 5 Tryd.underlying23 Tryd.underlying5 Tryd.underlying9 y.a _ _ _ y.l (YB.out wq hC).rd (YB.out wq hC).len) (Below.refl _ _) rfl)
          · exact Free.ob_plain _ rfl rfl fun vals wq hC hd => (by exact Free.d_bin rfl (Eq.trans (b := vals 4) (by kernel_rfl) (hd 4 (by kernel_rfl))) (Eq.trans (b := vals 9) (by kernel_rfl) (hd 9 (by kernel_rfl))) (by go_simp) (by rw [run_neq_str', HNE.out]) rfl)
        · intro vals wq hC hd
          have e0 : vals 0 = (.slice (some ⟨b, off, none⟩) n c) := hd 0 (by decide)
          have e1 : vals 1 = (.int .i64 (j : Int)) := hd 1 (by decide)
          have e2 : vals 2 = (.pointer (some ⟨b, off + j, none⟩)) := hd 2 (by decide)
          have e3 : vals 3 = (.slice x.a x.n x.c) := hd 3 (by decide)
          have e4 : vals 4 = (sv x.l) := hd 4 (by decide)
          have e5 : vals 5 = (.slice (some ⟨b2, off2, none⟩) n k) := hd 5 (by decide)
          have e6 : vals 6 = (.int .i64 (j : Int)) := hd 6 (by decide)
          have e7 : vals 7 = (.pointer (some ⟨b2, off2 + j, none⟩)) := hd 7 (by decide)
          have e8 : vals 8 = (.slice y.a y.n y.c) := hd 8 (by decide)
          have e9 : vals 9 = (sv y.l) := hd 9 (by decide)
          have e10 : vals 10 = (.bool true) := hd 10 (by decide)
          simp only [Free.frameOf, List.range, List.range.loop, List.foldl, Free.dstOf, List.getElem?_toArray, List.getElem?_cons_zero, List.getElem?_cons_succ, Option.bind_some, Act.put, List.setIfInBounds_toArray, List.set_cons_zero, List.set_cons_succ, e0, e1, e2, e3, e4, e5, e6, e7, e8, e9, e10]
          refine wpList_nil ?_
          clear hd e0 e1 e2 e3 e4 e5 e6 e7 e8 e9 e10
          have HBQ := Lib.hid (bt HBL.out hC)
          clear hC
          go_wp2
          go_ret
          exact ⟨by rw [hfin.out]; rfl, HBQ.out⟩
    · obtain rfl : j = n := by omega
      have hfin := Lib.hid (show decide (raws f j = raws g j) = true from decide_eq_true (raws_eq.2 hr.out))
      go_wp2
      go_ret
      exact ⟨by rw [hfin.out]; rfl, HBL.out⟩
end Go.Proofs.YtlcdpbpbfofmmaaDoor
