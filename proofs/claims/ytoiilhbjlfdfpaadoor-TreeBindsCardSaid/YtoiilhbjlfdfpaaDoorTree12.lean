/- The document's examples of layer 6 (knows). No statement of the seat is proved here. -/
import Derived.Test.YtoiilhbjlfdfpaaDoorTree11
namespace Go.Proofs.YtoiilhbjlfdfpaaDoor
set_option linter.unusedVariables false
open Go.RowKit

def pieceAt3 (g : Nat) (i : Nat) : Piece := ⟨some ⟨g + i, 0, none⟩, 1, 1, [UInt8.ofNat (i + 1)]⟩
theorem rows_three (w : World) : RowsAt ((((w.alloc (.cells #[.int .u8 1] 5)).alloc (.cells #[.int .u8 2] 5)).alloc (.cells #[.int .u8 3] 5)).alloc
      (.cells #[.slice (some ⟨w.heap.size, 0, none⟩) 1 1, .slice (some ⟨w.heap.size + 1, 0, none⟩) 1 1, .slice (some ⟨w.heap.size + 2, 0, none⟩) 1 1] 50)) (some ⟨w.heap.size + 3, 0, none⟩) 3 (pieceAt3 w.heap.size) := fun _ => by
  have s1 : (w.alloc (.cells #[.int .u8 1] 5)).heap.size = w.heap.size + 1 := by unfold World.alloc; simp
  obtain ⟨w1, h1⟩ : ∃ w1, w.alloc (.cells #[.int .u8 1] 5) = w1 := ⟨_, rfl⟩
  have p0 : Rd w1 (w.heap.size + 1) (some ⟨w.heap.size, 0, none⟩) [bv 1] := by rw [← h1]; exact rd_new w [bv 1] 5 (0, 0)
  rw [h1] at s1 ⊢
  have s2 : (w1.alloc (.cells #[.int .u8 2] 5)).heap.size = w1.heap.size + 1 := by unfold World.alloc; simp
  obtain ⟨w2, h2⟩ : ∃ w2, w1.alloc (.cells #[.int .u8 2] 5) = w2 := ⟨_, rfl⟩
  have p1 : Rd w2 (w1.heap.size + 1) (some ⟨w1.heap.size, 0, none⟩) [bv 2] := by rw [← h2]; exact rd_new w1 [bv 2] 5 (0, 0)
  replace p0 : Rd w2 (w.heap.size + 1) (some ⟨w.heap.size, 0, none⟩) [bv 1] := by rw [← h2]; exact p0.alloc (by omega) _
  rw [h2] at s2 ⊢
  have s3 : (w2.alloc (.cells #[.int .u8 3] 5)).heap.size = w2.heap.size + 1 := by unfold World.alloc; simp
  obtain ⟨w3, h3⟩ : ∃ w3, w2.alloc (.cells #[.int .u8 3] 5) = w3 := ⟨_, rfl⟩
  have p2 : Rd w3 (w2.heap.size + 1) (some ⟨w2.heap.size, 0, none⟩) [bv 3] := by rw [← h3]; exact rd_new w2 [bv 3] 5 (0, 0)
  replace p0 : Rd w3 (w.heap.size + 1) (some ⟨w.heap.size, 0, none⟩) [bv 1] := by rw [← h3]; exact p0.alloc (by omega) _
  replace p1 : Rd w3 (w1.heap.size + 1) (some ⟨w1.heap.size, 0, none⟩) [bv 2] := by rw [← h3]; exact p1.alloc (by omega) _
  rw [h3] at s3 ⊢
  have e1 : w1.heap.size = w.heap.size + 1 := s1
  have e2 : w2.heap.size = w.heap.size + 2 := by omega
  have e3 : w3.heap.size = w.heap.size + 3 := by omega
  rw [e1] at p1
  rw [e2] at p2
  refine ⟨w.heap.size + 3, 0, rfl, by unfold World.alloc; simp [e3], fun i hi => ?_⟩
  have hrow := row_new w3 #[.slice (some ⟨w.heap.size, 0, none⟩) 1 1, .slice (some ⟨w.heap.size + 1, 0, none⟩) 1 1, .slice (some ⟨w.heap.size + 2, 0, none⟩) 1 1] 50
  rw [e3] at hrow
  rcases (show i = 0 ∨ i = 1 ∨ i = 2 by omega) with rfl | rfl | rfl
  · exact ⟨hrow.cellQ 0 _ rfl, ⟨(p0.alloc (by omega) _).more (by unfold World.alloc; simp; omega), rfl, Nat.le_refl _, (show 1 ≤ maxLen by decide)⟩⟩
  · exact ⟨hrow.cellQ 1 _ rfl, ⟨(p1.alloc (by omega) _).more (by unfold World.alloc; simp; omega), rfl, Nat.le_refl _, (show 1 ≤ maxLen by decide)⟩⟩
  · exact ⟨hrow.cellQ 2 _ rfl, ⟨(p2.alloc (by omega) _).more (by unfold World.alloc; simp; omega), rfl, Nat.le_refl _, (show 1 ≤ maxLen by decide)⟩⟩
theorem troot_two (a b : List UInt8) : troot [a, b] = tnd a b := by
  show Tree.root tnd tnil [a, b] = _
  rw [Tree.root_two _ _ (by simp)]
  have h : Tree.sp [a, b].length = 1 := Tree.sp_of (t := 0) (by simp) (by simp)
  rw [h]
  show tnd (Tree.root tnd tnil [a]) (Tree.root tnd tnil [b]) = _
  rw [Tree.root_one, Tree.root_one]
theorem tpath_three (a b c : List UInt8) : tpath [a, b, c] 2 = [tnd a b] := by
  have h : Tree.sp [a, b, c].length = 2 := Tree.sp_of (t := 1) (by simp) (by simp)
  show Tree.path tnd tnil [a, b, c] 2 = _
  rw [Tree.path_right _ _ (by simp) (by rw [h]; decide), h]
  show Tree.path tnd tnil [c] 0 ++ [troot [a, b]] = _
  rw [Tree.path_small _ _ (by simp), troot_two]; rfl
theorem sp_two : Tree.spz 2 = 1 := by
  rw [show (2 : Int) = ((2 : Nat) : Int) from rfl, Tree.spz_in (by omega) (by omega)]; exact Tree.sp_of (t := 0) (by decide) (by decide)
theorem sp_five : Tree.spz 5 = 4 := by
  rw [show (5 : Int) = ((5 : Nat) : Int) from rfl, Tree.spz_in (by omega) (by omega)]; exact Tree.sp_of (t := 2) (by decide) (by decide)
theorem sp_eight : Tree.spz 8 = 4 := by
  rw [show (8 : Int) = ((8 : Nat) : Int) from rfl, Tree.spz_in (by omega) (by omega)]; exact Tree.sp_of (t := 2) (by decide) (by decide)
theorem str_same (a : List UInt8) : ((str a).toList == (str a).toList) = true := by simp
set_option maxRecDepth 100000 in
set_option maxHeartbeats 16000000 in
theorem knows6_any (w : World) (ht : Tabs w) : Calls Tryd.prog 16 #[] w (Yes w) := by
  obtain ⟨l0, hl0⟩ : ∃ l, seal_ 0 [UInt8.ofNat (0 + 1)] = l := ⟨_, rfl⟩
  obtain ⟨l1, hl1⟩ : ∃ l, seal_ 0 [UInt8.ofNat (1 + 1)] = l := ⟨_, rfl⟩
  obtain ⟨l2, hl2⟩ : ∃ l, seal_ 0 [UInt8.ofNat (2 + 1)] = l := ⟨_, rfl⟩
  have n0 : l0.length = 32 := by rw [← hl0]; exact seal_len _ _
  have n1 : l1.length = 32 := by rw [← hl1]; exact seal_len _ _
  have n2 : l2.length = 32 := by rw [← hl2]; exact seal_len _ _
  have hall : ∀ s ∈ [l0, l1, l2], s.length = 32 := fun s hs => by
    simp only [List.mem_cons, List.not_mem_nil, or_false] at hs
    rcases hs with rfl | rfl | rfl <;> assumption
  have hleaf : tleaves (pieceAt3 w.heap.size) 3 = [l0, l1, l2] := by
    rw [← hl0, ← hl1, ← hl2]; rfl
  obtain ⟨N, hN⟩ : ∃ N, tnd l0 l1 = N := ⟨_, rfl⟩
  have nN : N.length = 32 := by rw [← hN]; exact tnd_len _ _
  have hP : tpath [l0, l1, l2] 2 = [N] := by rw [tpath_three, hN]
  obtain ⟨R, hR⟩ : ∃ R, troot [l0, l1, l2] = R := ⟨_, rfl⟩
  have hC : tclimb l2 2 3 [N] = R := by
    rw [← hP, ← hR]
    exact Tree.climb_path tnd tnil 3 [l0, l1, l2] 2 l2 (Nat.le_refl _) rfl
  have hS : (Tree.sides 2 3).length = 1 := by
    have := Tree.path_len tnd tnil 3 [l0, l1, l2] 2 (Nat.le_refl _) (by simp)
    rw [show Tree.path tnd tnil [l0, l1, l2] 2 = [N] from hP] at this
    exact this.symm
  obtain ⟨E, hE⟩ : ∃ E, tnil = E := ⟨_, rfl⟩
  have cl := leaves_any (some ⟨w.heap.size + 3, 0, none⟩) 3 3 (pieceAt3 w.heap.size) _ (rows_three w) (Nat.le_refl _) (by decide) (by omega) (fun i hi => by unfold pieceAt3; simp) (by
    refine ht.below ?_
    have a1 := (Below.refl w.heap.size w).alloc (Nat.le_refl _) (.cells #[.int .u8 1] 5)
    have a2 := a1.alloc a1.size (.cells #[.int .u8 2] 5)
    have a3 := a2.alloc a2.size (.cells #[.int .u8 3] 5)
    exact a3.alloc a3.size _)
  rw [hleaf] at cl
  have CL := Lib.hid cl
  have HB0 := Lib.hid (by
    have a1 := (Below.refl w.heap.size w).alloc (Nat.le_refl _) (.cells #[.int .u8 1] 5)
    have a2 := a1.alloc a1.size (.cells #[.int .u8 2] 5)
    have a3 := a2.alloc a2.size (.cells #[.int .u8 3] 5)
    exact a3.alloc a3.size (.cells #[.slice (some ⟨w.heap.size, 0, none⟩) 1 1, .slice (some ⟨w.heap.size + 1, 0, none⟩) 1 1, .slice (some ⟨w.heap.size + 2, 0, none⟩) 1 1] 50))
  have HN := Lib.hid hN
  have HT := Lib.hid ht
  have c2 := fun (W : World) (A : Option Addr) (c : Nat) (h : Ss W A 3 c [l0, l1, l2]) (ht : Tabs W) => path_any A 3 c [l0, l1, l2] 2 W h hall (by omega) (by omega) ht
  rw [hP] at c2
  have c3 := fun (W : World) (A : Option Addr) (c : Nat) (h : Ss W A 3 c [l0, l1, l2]) (ht : Tabs W) => Root_any A 3 c [l0, l1, l2] W h hall (by omega) ht
  rw [hR] at c3
  have c4 := fun (W : World) (A : Option Addr) (c : Nat) (h : Ss W A 1 c [N]) (ht : Tabs W) => climb_yes l2 2 3 A 1 c [N] W n2 (by omega) (by omega) h (fun s hs => by rw [List.mem_singleton.1 hs]; exact nN) ht hS.symm
  rw [hC] at c4
  have c5 := fun (W : World) (ht : Tabs W) => Root_any none 0 0 [] W ⟨Rd.nil, rfl, Nat.le_refl _, Nat.zero_le _⟩ (by simp) (by omega) ht
  rw [show troot [] = E from (Tree.root_nil tnd tnil).trans hE] at c5
  have c6 := fun (W : World) (ht : Tabs W) => sum_nil_any W ht
  unfold SumPost at c6
  rw [show Sha.sum [] = E from hE] at c6
  have C2 := Lib.hid c2
  have C3 := Lib.hid c3
  have C4 := Lib.hid c4
  have C5 := Lib.hid c5
  have C6 := Lib.hid c6
  have NN := Lib.hid (And.intro n0 n1)
  have q1 := str_same R
  have q2 := str_same E
  have q3 := str_same N
  clear cl c2 c3 c4 c5 c6 hl0 hl1 hl2 hP hR hC hS hE hN hleaf ht n0 n1 n2 nN hall
  go_enter Tryd.func16, Tryd.ntmps16
  go_wp2_with fail
  refine CL.out.mono ?_
  rintro e w1 ⟨A1, n1, c, rfl, ho1, hb1⟩
  have HB1 := Lib.hid (HB0.out.trans (hb1.mono HB0.out.size))
  have hn1 := ho1.len
  simp only [List.length_cons, List.length_nil] at hn1
  obtain rfl : n1 = 3 := by omega
  obtain ⟨g, rfl, hg, hgw⟩ := ho1.form (by omega)
  have X0 := Lib.hid (show ∀ W, Below w1.heap.size w1 W → W.cell? ⟨g, 0, none⟩ = some (sv l0) from fun W hW => (ho1.keep hW).cell rfl)
  have X1 := Lib.hid (show ∀ W, Below w1.heap.size w1 W → W.cell? ⟨g, 1, none⟩ = some (sv l1) from fun W hW => (ho1.keep hW).cell rfl)
  have X2 := Lib.hid (show ∀ W, Below w1.heap.size w1 W → W.cell? ⟨g, 2, none⟩ = some (sv l2) from fun W hW => (ho1.keep hW).cell rfl)
  have HL := Lib.hid (show ∀ W, Below w1.heap.size w1 W → Ss W (some ⟨g, 0, none⟩) 3 c [l0, l1, l2] from fun W hW => (ho1.keep hW).ss)
  have hcc := ho1.cap
  have hcm := ho1.max
  rw [maxLen_eq] at hcm
  have QN := Lib.hid (show ∀ W, Below w1.heap.size w1 W → Calls Tryd.prog 30 #[sv l0, sv l1] W (NodePost l0 l1 W) from fun W hW => node_any l0 l1 W NN.out.1 NN.out.2 (HT.out.below (bt HB1.out hW)))
  unfold NodePost at QN
  rw [show seal_ 1 (l0 ++ l1) = N from HN.out] at QN
  clear ho1 hb1 hn1
  go_wp2_with fail
  refine Free.wp_free_l 12 (fun W => Below w1.heap.size w1 W) [Free.kc (.slice (some ⟨g, 0, none⟩) 3 c), Free.kc (.pointer (some ⟨g, 0, none⟩)), Free.kc (sv l0), Free.kc (.slice (some ⟨g, 0, none⟩) 3 c), Free.kc (.pointer (some ⟨g, 1, none⟩)), Free.kc (sv l1), Free.kc (.tuple #[sv N, .int .i64 0]), Free.kc (.tuple #[sv N, .int .i64 0]), Free.kc (sv N), Free.kc (.int .i64 0), Free.kc (sv N), Free.kc (.int .i64 0)] (by kernel_rfl) (by kernel_rfl) (by decide) (Below.refl _ _).drew (fun w w' h g => bt h g) ?_ ?_
  · refine Free.forall_succ (Free.forall_succ (Free.forall_succ (Free.forall_succ (Free.forall_succ (Free.forall_succ (Free.forall_succ (Free.forall_succ (Free.forall_succ (Free.forall_succ (Free.forall_succ (Free.forall_succ (Free.forall_zero) ?_) ?_) ?_) ?_) ?_) ?_) ?_) ?_) ?_) ?_) ?_) ?_
    · exact Free.ob_plain _ rfl rfl fun vals wq hC hd => (by exact Free.d_move rfl (by kernel_rfl) rfl)
    · exact Free.ob_plain _ rfl rfl fun vals wq hC hd => (by exact Free.d_indexAddr rfl (Eq.trans (b := vals 0) (by kernel_rfl) (hd 0 (by kernel_rfl))) (show _ = (Value.int .i64 0) from rfl) (run_idx0 22 Tryd.underlying22 (by kernel_rfl) g 3 c 0 _ (by rfl) (by omega)) rfl)
    · exact Free.ob_plain _ rfl rfl fun vals wq hC hd => (by exact Free.d_load rfl (Eq.trans (b := vals 1) (by kernel_rfl) (hd 1 (by kernel_rfl))) (by have hcc := X0.out wq hC; go_simp) rfl)
    · exact Free.ob_plain _ rfl rfl fun vals wq hC hd => (by exact Free.d_move rfl (by kernel_rfl) rfl)
    · exact Free.ob_plain _ rfl rfl fun vals wq hC hd => (by exact Free.d_indexAddr rfl (Eq.trans (b := vals 3) (by kernel_rfl) (hd 3 (by kernel_rfl))) (show _ = (Value.int .i64 1) from rfl) (run_idx0 22 Tryd.underlying22 (by kernel_rfl) g 3 c 1 _ (by rfl) (by omega)) rfl)
    · exact Free.ob_plain _ rfl rfl fun vals wq hC hd => (by exact Free.d_load rfl (Eq.trans (b := vals 4) (by kernel_rfl) (hd 4 (by kernel_rfl))) (by have hcc := X1.out wq hC; go_simp) rfl)
    · exact Free.ob_plain _ rfl rfl fun vals wq hC hd => (by exact Free.d_call Tryd.func30 (by kernel_rfl) (by kernel_rfl) rfl rfl (Free.arg2 (Eq.trans (b := vals 2) (by kernel_rfl) (hd 2 (by kernel_rfl))) (Eq.trans (b := vals 5) (by kernel_rfl) (hd 5 (by kernel_rfl)))) ((QN.out wq hC).mono fun e w2 h => ⟨_, h.1, rfl, h.2⟩))
    · exact Free.ob_plain _ rfl rfl fun vals wq hC hd => (by exact Free.d_move rfl (Eq.trans (b := vals 6) (by kernel_rfl) (hd 6 (by kernel_rfl))) rfl)
    · exact Free.ob_plain _ rfl rfl fun vals wq hC hd => (by exact Free.d_extract rfl (Eq.trans (b := vals 7) (by kernel_rfl) (hd 7 (by kernel_rfl))) (by first | rfl | (go_simp; done)) rfl)
    · exact Free.ob_plain _ rfl rfl fun vals wq hC hd => (by exact Free.d_extract rfl (Eq.trans (b := vals 7) (by kernel_rfl) (hd 7 (by kernel_rfl))) (by first | rfl | (go_simp; done)) rfl)
    · exact Free.ob_plain _ rfl rfl fun vals wq hC hd => (by exact Free.d_assign rfl (Eq.trans (b := vals 8) (by kernel_rfl) (hd 8 (by kernel_rfl))) rfl)
    · exact Free.ob_plain _ rfl rfl fun vals wq hC hd => (by exact Free.d_assign rfl (Eq.trans (b := vals 9) (by kernel_rfl) (hd 9 (by kernel_rfl))) rfl)
  · intro vals wq hC hd
    have e0 : vals 0 = (.slice (some ⟨g, 0, none⟩) 3 c) := hd 0 (by decide)
    have e1 : vals 1 = (.pointer (some ⟨g, 0, none⟩)) := hd 1 (by decide)
    have e2 : vals 2 = (sv l0) := hd 2 (by decide)
    have e3 : vals 3 = (.slice (some ⟨g, 0, none⟩) 3 c) := hd 3 (by decide)
    have e4 : vals 4 = (.pointer (some ⟨g, 1, none⟩)) := hd 4 (by decide)
    have e5 : vals 5 = (sv l1) := hd 5 (by decide)
    have e6 : vals 6 = (.tuple #[sv N, .int .i64 0]) := hd 6 (by decide)
    have e7 : vals 7 = (.tuple #[sv N, .int .i64 0]) := hd 7 (by decide)
    have e8 : vals 8 = (sv N) := hd 8 (by decide)
    have e9 : vals 9 = (.int .i64 0) := hd 9 (by decide)
    have e10 : vals 10 = (sv N) := hd 10 (by decide)
    have e11 : vals 11 = (.int .i64 0) := hd 11 (by decide)
    simp only [Free.frameOf, List.range, List.range.loop, List.foldl, Free.dstOf, List.getElem?_toArray, List.getElem?_cons_zero, List.getElem?_cons_succ, Option.bind_some, Act.put, List.setIfInBounds_toArray, List.set_cons_zero, List.set_cons_succ, e0, e1, e2, e3, e4, e5, e6, e7, e8, e9, e10, e11]
    refine wpList_nil ?_
    clear hd e0 e1 e2 e3 e4 e5 e6 e7 e8 e9 e10 e11
    have HB2 := Lib.hid hC
    clear hC
    go_wp2_with fail
    refine (C2.out _ _ c (HL.out _ HB2.out) (HT.out.below (bt HB1.out HB2.out))).mono ?_
    rintro e w3 ⟨A3, n3, c3, rfl, ho3, hb3⟩
    have HB3 := Lib.hid (bt HB2.out hb3)
    have hn3 := ho3.len
    simp only [List.length_cons, List.length_nil] at hn3
    obtain rfl : n3 = 1 := by omega
    obtain ⟨g3, rfl, hg3, hgw3⟩ := ho3.form (by omega)
    have hc3 := ho3.cap
    have hm3 := ho3.max
    rw [maxLen_eq] at hm3
    have HS3 := Lib.hid ho3
    clear ho3 hb3 hn3
    go_wp2_with fail
    refine (C3.out _ _ c (HL.out _ HB3.out) (HT.out.below (bt HB1.out HB3.out))).mono ?_
    rintro e w4 ⟨rfl, hb4⟩
    have HB4 := Lib.hid (bt HB3.out hb4)
    have HS4 := Lib.hid (HS3.out.keep hb4)
    have x2 := X2.out _ HB4.out
    clear hb4
    go_wp2_with fail
    refine (C4.out _ _ c3 HS4.out.ss (HT.out.below (bt HB1.out HB4.out))).mono ?_
    rintro e w5 ⟨rfl, hb5⟩
    have HB5 := Lib.hid (bt HB4.out hb5)
    have HS5 := Lib.hid (HS4.out.keep hb5)
    clear hb5 x2
    go_wp2_with fail
    refine (C5.out _ (HT.out.below (bt HB1.out HB5.out))).mono ?_
    rintro e w6 ⟨rfl, hb6⟩
    have HB6 := Lib.hid (bt HB5.out hb6)
    have HS6 := Lib.hid (HS5.out.keep hb6)
    clear hb6
    go_wp2_with fail
    refine (split_any 2 w6 (by omega) (by omega)).mono ?_
    rintro e w7 ⟨rfl, rfl⟩
    rw [sp_two]
    go_wp2_with fail
    refine (split_any 5 w6 (by omega) (by omega)).mono ?_
    rintro e w7 ⟨rfl, rfl⟩
    rw [sp_five]
    go_wp2_with fail
    refine (split_any 8 w6 (by omega) (by omega)).mono ?_
    rintro e w7 ⟨rfl, rfl⟩
    rw [sp_eight]
    have x3 := HS6.out.cell (j := 0) rfl
    go_wp2_with fail
    refine (C6.out _ (HT.out.below (bt HB1.out HB6.out))).mono ?_
    rintro e w8 ⟨rfl, hb8⟩
    have HB8 := Lib.hid (bt HB1.out (bt HB6.out hb8))
    clear hb8 x3
    go_wp2
    go_ret
    exact ⟨rfl, HB8.out⟩
end Go.Proofs.YtoiilhbjlfdfpaaDoor
