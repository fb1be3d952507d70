/- SealSeals: the walk of the law. -/
import Derived.Test.YtcnjpcmadkkhfaaDoorSeal7
namespace Go.Proofs.YtcnjpcmadkkhfaaDoor
set_option linter.unusedVariables false
open Go.RowKit

set_option maxRecDepth 100000 in
set_option maxHeartbeats 8000000 in
theorem seals_any (A : Option Addr) (n c : Nat) (b : List UInt8) (l : List UInt8) (hwl : l.length ≤ maxLen) (r : List UInt8) (hwr : r.length ≤ maxLen) (w : World) (hr : Rd w w.heap.size A (b.map bv)) (hn : b.length = n) (hc : n ≤ c) (hm : c ≤ maxLen) (ht : Tabs w) :
    Calls Tryd.prog 9 #[.slice A n c, sv l, sv r] w (Yes w) := by
  clear hwl hwr
  have HT := Lib.hid ht
  have HR := Lib.hid (And.intro hr (And.intro hn hm))
  rw [maxLen_eq] at hm
  clear hr hn ht
  obtain ⟨nl, hnl⟩ : ∃ x, l.length = x := ⟨_, rfl⟩
  obtain ⟨nr, hnr⟩ : ∃ x, r.length = x := ⟨_, rfl⟩
  have z1 : (str l).size = nl := by rw [str_size]; exact hnl
  have z2 : (str r).size = nr := by rw [str_size]; exact hnr
  have HN := Lib.hid (And.intro hnl hnr)
  clear hnl hnr
  have skip : ∀ (hbig : ¬ (n ≤ 2000 ∧ nl ≤ 200 ∧ nr ≤ 200)), Calls Tryd.prog 9 #[.slice A n c, sv l, sv r] w (Yes w) := by
    intro hbig
    by_cases h1 : n ≤ 2000
    · have g1 : decide (n > 2000) = false := decide_eq_false (by omega)
      have G := Lib.hid g1
      clear g1
      by_cases h2 : nl ≤ 200
      · have h3 : 200 < nr := by omega
        have HBIG := Lib.hid hbig
        clear hbig
        go_enter Tryd.func9, Tryd.ntmps9
        go_wp2_with fail
        refine (great_any A n c w hc hm).mono ?_
        rintro e w0 ⟨rfl, rfl⟩
        rw [G.out]
        go_wp2_with fail
        refine (knows3_any _ HT.out).mono ?_
        rintro e w4 ⟨rfl, hb4⟩
        go_wp2
        go_ret
        exact ⟨rfl, hb4⟩
      · have h3 : 200 < nl := by omega
        have HBIG := Lib.hid hbig
        clear hbig h2
        go_enter Tryd.func9, Tryd.ntmps9
        go_wp2_with fail
        refine (great_any A n c w hc hm).mono ?_
        rintro e w0 ⟨rfl, rfl⟩
        rw [G.out]
        go_wp2_with fail
        refine (knows3_any _ HT.out).mono ?_
        rintro e w4 ⟨rfl, hb4⟩
        go_wp2
        go_ret
        exact ⟨rfl, hb4⟩
    · have g1 : decide (n > 2000) = true := decide_eq_true (by omega)
      have G := Lib.hid g1
      clear g1 hbig h1
      go_enter Tryd.func9, Tryd.ntmps9
      go_wp2_with fail
      refine (great_any A n c w hc hm).mono ?_
      rintro e w0 ⟨rfl, rfl⟩
      rw [G.out]
      go_wp2_with fail
      refine (knows3_any _ HT.out).mono ?_
      rintro e w4 ⟨rfl, hb4⟩
      go_wp2
      go_ret
      exact ⟨rfl, hb4⟩
  by_cases hbig : n ≤ 2000 ∧ nl ≤ 200 ∧ nr ≤ 200
  · clear skip
    obtain ⟨h1, h2, h3⟩ := hbig
    have g1 : decide (n > 2000) = false := decide_eq_false (by omega)
    have G := Lib.hid g1
    clear g1
    obtain ⟨L, hL⟩ : ∃ L, seal_ 0 b = L := ⟨_, rfl⟩
    obtain ⟨P, hP⟩ : ∃ P, seal_ 2 b = P := ⟨_, rfl⟩
    obtain ⟨H, hH⟩ : ∃ H, seal_ 3 b = H := ⟨_, rfl⟩
    obtain ⟨N, hN⟩ : ∃ N, seal_ 1 (l ++ r) = N := ⟨_, rfl⟩
    have c1 := fun (W : World) (h : Below w.heap.size w W) => leaf_any A n c b W (HR.out.1.below' h (Nat.le_refl _) |>.more h.size) HR.out.2.1 hc HR.out.2.2 (by omega) (HT.out.below h)
    have c2 := fun (W : World) (h : Below w.heap.size w W) => posts_any A n c b W (HR.out.1.below' h (Nat.le_refl _) |>.more h.size) HR.out.2.1 hc HR.out.2.2 (by omega) (HT.out.below h)
    have c3 := fun (W : World) (h : Below w.heap.size w W) => head_any A n c b W (HR.out.1.below' h (Nat.le_refl _) |>.more h.size) HR.out.2.1 hc HR.out.2.2 (by omega) (HT.out.below h)
    have o1 := fun (W : World) (h : Below w.heap.size w W) => (show Calls Tryd.prog 30 #[.int .i64 0, .slice A n c] W (SealPost 0 b W) from rof_any 0 A n c b W (HR.out.1.below' h (Nat.le_refl _) |>.more h.size) HR.out.2.1 hc HR.out.2.2 (by omega))
    have o2 := fun (W : World) (h : Below w.heap.size w W) => (show Calls Tryd.prog 30 #[.int .i64 2, .slice A n c] W (SealPost 2 b W) from rof_any 2 A n c b W (HR.out.1.below' h (Nat.le_refl _) |>.more h.size) HR.out.2.1 hc HR.out.2.2 (by omega))
    have o3 := fun (W : World) (h : Below w.heap.size w W) => (show Calls Tryd.prog 30 #[.int .i64 3, .slice A n c] W (SealPost 3 b W) from rof_any 3 A n c b W (HR.out.1.below' h (Nat.le_refl _) |>.more h.size) HR.out.2.1 hc HR.out.2.2 (by omega))
    have c4 := fun (W : World) (h : Below w.heap.size w W) (i1 : l.length = 32) (i2 : r.length = 32) => node_any l r W i1 i2 (HT.out.below h)
    have c5 := fun (W : World) => rnode_any l r W (by rw [HN.out.1]; omega) (by rw [HN.out.2]; omega)
    unfold SealPost at c1 c2 c3 o1 o2 o3 c5
    unfold NodePost at c4
    rw [hL] at c1 o1
    rw [hP] at c2 o2
    rw [hH] at c3 o3
    rw [hN] at c4 c5
    have C1 := Lib.hid c1
    have C2 := Lib.hid c2
    have C3 := Lib.hid c3
    have C4 := Lib.hid c4
    have C5 := Lib.hid c5
    have O1 := Lib.hid o1
    have O2 := Lib.hid o2
    have O3 := Lib.hid o3
    clear c1 c2 c3 c4 c5 o1 o2 o3 hL hP hH hN
    have HC8 : Hid (∀ W, Below w.heap.size w W → Calls Tryd.prog 26 #[sv l, sv r] W (JoinPost 1 (l ++ r) W)) := Lib.hid fun W h => nodeBytes_any l r W (by rw [HN.out.1]; omega) (by rw [HN.out.2]; omega)
    have ap1 : (⟨#[1]⟩ : ByteArray) ++ str l = str (1 :: l) := str_append [1] l
    have z3 : (str (1 :: l)).size = nl + 1 := by rw [str_size, List.length_cons, HN.out.1]
    have ap2 : str (1 :: l) ++ str r = str (1 :: (l ++ r)) := str_append (1 :: l) r
    go_enter Tryd.func9, Tryd.ntmps9
    go_wp2_with fail
    refine (great_any A n c w hc hm).mono ?_
    rintro e w0 ⟨rfl, rfl⟩
    rw [G.out]
    go_wp2_with fail
    refine (C1.out _ (Below.refl _ _)).mono ?_
    rintro e w1 ⟨rfl, hb1⟩
    have HB1 := Lib.hid (hb1)
    clear hb1
    go_wp2_with fail
    refine (O1.out _ HB1.out).mono ?_
    rintro e w2 ⟨rfl, hb2⟩
    have HB2 := Lib.hid (bt HB1.out hb2)
    clear hb2
    go_wp2_with fail
    refine (C2.out _ HB2.out).mono ?_
    rintro e w3 ⟨rfl, hb3⟩
    have HB3 := Lib.hid (bt HB2.out hb3)
    clear hb3
    go_wp2_with fail
    refine (O2.out _ HB3.out).mono ?_
    rintro e w4 ⟨rfl, hb4⟩
    have HB4 := Lib.hid (bt HB3.out hb4)
    clear hb4
    go_wp2_with fail
    refine (C3.out _ HB4.out).mono ?_
    rintro e w5 ⟨rfl, hb5⟩
    have HB5 := Lib.hid (bt HB4.out hb5)
    clear hb5
    go_wp2_with fail
    refine (O3.out _ HB5.out).mono ?_
    rintro e w6 ⟨rfl, hb6⟩
    have HB6 := Lib.hid (bt HB5.out hb6)
    clear hb6
    go_wp2_with fail
    have L0 := fun (W : World) (h : Below w6.heap.size w6 W) => leafBytes_any A n c b W (HR.out.1.below' (bt HB6.out h) (Nat.le_refl _) |>.more (bt HB6.out h).size) HR.out.2.1 hc HR.out.2.2 (by omega)
    have L1 := fun (W : World) (h : Below w6.heap.size w6 W) => postsBytes_any A n c b W (HR.out.1.below' (bt HB6.out h) (Nat.le_refl _) |>.more (bt HB6.out h).size) HR.out.2.1 hc HR.out.2.2 (by omega)
    have L2 := fun (W : World) (h : Below w6.heap.size w6 W) => headBytes_any A n c b W (HR.out.1.below' (bt HB6.out h) (Nat.le_refl _) |>.more (bt HB6.out h).size) HR.out.2.1 hc HR.out.2.2 (by omega)
    have R0 := fun (W : World) (h : Below w6.heap.size w6 W) => (show Calls Tryd.prog 33 #[.int .i64 0, .slice A n c] W (JoinPost 0 b W) from rbytes_any 0 A n c b W (HR.out.1.below' (bt HB6.out h) (Nat.le_refl _) |>.more (bt HB6.out h).size) HR.out.2.1 hc HR.out.2.2 (by omega))
    have R1 := fun (W : World) (h : Below w6.heap.size w6 W) => (show Calls Tryd.prog 33 #[.int .i64 2, .slice A n c] W (JoinPost 2 b W) from rbytes_any 2 A n c b W (HR.out.1.below' (bt HB6.out h) (Nat.le_refl _) |>.more (bt HB6.out h).size) HR.out.2.1 hc HR.out.2.2 (by omega))
    have R2 := fun (W : World) (h : Below w6.heap.size w6 W) => (show Calls Tryd.prog 33 #[.int .i64 3, .slice A n c] W (JoinPost 3 b W) from rbytes_any 3 A n c b W (HR.out.1.below' (bt HB6.out h) (Nat.le_refl _) |>.more (bt HB6.out h).size) HR.out.2.1 hc HR.out.2.2 (by omega))
    refine Free.wp_free_l 25 (fun W => Below w6.heap.size w6 W) [Free.kc (.slice A n c), Free.kr (b.length + 1) ((0 :: b).map bv), Free.kc (sv (0 :: b)), Free.kc (.slice A n c), Free.kr (b.length + 1) ((0 :: b).map bv), Free.kc (sv (0 :: b)), Free.kc (.bool false), Free.kc (.bool false), Free.kc (.slice A n c), Free.kr (b.length + 1) ((2 :: b).map bv), Free.kc (sv (2 :: b)), Free.kc (.slice A n c), Free.kr (b.length + 1) ((2 :: b).map bv), Free.kc (sv (2 :: b)), Free.kc (.bool false), Free.kc (.bool false), Free.kc (.bool false), Free.kc (.slice A n c), Free.kr (b.length + 1) ((3 :: b).map bv), Free.kc (sv (3 :: b)), Free.kc (.slice A n c), Free.kr (b.length + 1) ((3 :: b).map bv), Free.kc (sv (3 :: b)), Free.kc (.bool false), Free.kc (.bool false)] (by kernel_rfl) (by kernel_rfl) (by decide) (Below.refl _ _).drew (fun w w' h g => bt h g) ?_ ?_
    · refine Free.forall_succ (Free.forall_succ (Free.forall_succ (Free.forall_succ (Free.forall_succ (Free.forall_succ (Free.forall_succ (Free.forall_succ (Free.forall_succ (Free.forall_succ (Free.forall_succ (Free.forall_succ (Free.forall_succ (Free.forall_succ (Free.forall_succ (Free.forall_succ (Free.forall_succ (Free.forall_succ (Free.forall_succ (Free.forall_succ (Free.forall_succ (Free.forall_succ (Free.forall_succ (Free.forall_succ (Free.forall_succ (Free.forall_zero) ?_) ?_) ?_) ?_) ?_) ?_) ?_) ?_) ?_) ?_) ?_) ?_) ?_) ?_) ?_) ?_) ?_) ?_) ?_) ?_) ?_) ?_) ?_) ?_) ?_
      · exact Free.ob_plain _ rfl rfl fun vals wq hC hd => (by exact Free.d_move rfl (by kernel_rfl) rfl)
      · exact Free.ob_plain _ rfl rfl fun vals wq hC hd => (by exact Free.d_call Tryd.func25 (by kernel_rfl) (by kernel_rfl) rfl rfl (Free.arg1 (Eq.trans (b := vals 0) (by kernel_rfl) (hd 0 (by kernel_rfl)))) ((L0 wq hC).mono fun e w2 h => (by obtain ⟨A2, k2, he, ho, h1, h2, hb⟩ := h; exact ⟨_, he, ⟨A2, k2, rfl, Rd.of_own ho, h1, h2⟩, hb⟩)))
      · exact Free.ob_plain _ rfl rfl fun vals wq hC hd => (by obtain ⟨A1, k1, e1, rd1, le1, mx1⟩ := hd 1 (by kernel_rfl); exact Free.d_conv rfl (Eq.trans (b := vals 1) (by kernel_rfl) e1) (run_str (P := Tryd.prog) 22 9 5 Tryd.underlying22 Tryd.underlying5 Tryd.underlying9 A1 _ k1 _ (0 :: b) rd1 (by simp)) (Below.refl _ _) rfl)
      · exact Free.ob_plain _ rfl rfl fun vals wq hC hd => (by exact Free.d_move rfl (by kernel_rfl) rfl)
      · exact Free.ob_plain _ rfl rfl fun vals wq hC hd => (by exact Free.d_call Tryd.func33 (by kernel_rfl) (by kernel_rfl) rfl rfl (Free.arg2 (show _ = (.int .i64 0 : Value) from rfl) (Eq.trans (b := vals 3) (by kernel_rfl) (hd 3 (by kernel_rfl)))) ((R0 wq hC).mono fun e w2 h => (by obtain ⟨A2, k2, he, ho, h1, h2, hb⟩ := h; exact ⟨_, he, ⟨A2, k2, rfl, Rd.of_own ho, h1, h2⟩, hb⟩)))
      · exact Free.ob_plain _ rfl rfl fun vals wq hC hd => (by obtain ⟨A4, k4, e4, rd4, le4, mx4⟩ := hd 4 (by kernel_rfl); exact Free.d_conv rfl (Eq.trans (b := vals 4) (by kernel_rfl) e4) (run_str (P := Tryd.prog) 22 9 5 Tryd.underlying22 Tryd.underlying5 Tryd.underlying9 A4 _ k4 _ (0 :: b) rd4 (by simp)) (Below.refl _ _) rfl)
      · exact Free.ob_plain _ rfl rfl fun vals wq hC hd => (by exact Free.d_bin rfl (Eq.trans (b := vals 2) (by kernel_rfl) (hd 2 (by kernel_rfl))) (Eq.trans (b := vals 5) (by kernel_rfl) (hd 5 (by kernel_rfl))) (by go_simp) (by rw [run_neq_str]; simp) rfl)
      · exact Free.ob_plain _ rfl rfl fun vals wq hC hd => (by exact Free.d_move rfl (Eq.trans (b := vals 6) (by kernel_rfl) (hd 6 (by kernel_rfl))) rfl)
      · exact Free.ob_guard _ rfl 7 48 false rfl rfl fun vals wq hC hd => ⟨Eq.trans (b := vals 7) (by kernel_rfl) (hd 7 (by kernel_rfl)), (by exact Free.d_move rfl (by kernel_rfl) rfl)⟩
      · exact Free.ob_guard _ rfl 7 48 false rfl rfl fun vals wq hC hd => ⟨Eq.trans (b := vals 7) (by kernel_rfl) (hd 7 (by kernel_rfl)), (by exact Free.d_call Tryd.func27 (by kernel_rfl) (by kernel_rfl) rfl rfl (Free.arg1 (Eq.trans (b := vals 8) (by kernel_rfl) (hd 8 (by kernel_rfl)))) ((L1 wq hC).mono fun e w2 h => (by obtain ⟨A2, k2, he, ho, h1, h2, hb⟩ := h; exact ⟨_, he, ⟨A2, k2, rfl, Rd.of_own ho, h1, h2⟩, hb⟩)))⟩
      · exact Free.ob_guard _ rfl 7 48 false rfl rfl fun vals wq hC hd => ⟨Eq.trans (b := vals 7) (by kernel_rfl) (hd 7 (by kernel_rfl)), (by obtain ⟨A9, k9, e9, rd9, le9, mx9⟩ := hd 9 (by kernel_rfl); exact Free.d_conv rfl (Eq.trans (b := vals 9) (by kernel_rfl) e9) (run_str (P := Tryd.prog) 22 9 5 Tryd.underlying22 Tryd.underlying5 Tryd.underlying9 A9 _ k9 _ (2 :: b) rd9 (by simp)) (Below.refl _ _) rfl)⟩
      · exact Free.ob_guard _ rfl 7 48 false rfl rfl fun vals wq hC hd => ⟨Eq.trans (b := vals 7) (by kernel_rfl) (hd 7 (by kernel_rfl)), (by exact Free.d_move rfl (by kernel_rfl) rfl)⟩
      · exact Free.ob_guard _ rfl 7 48 false rfl rfl fun vals wq hC hd => ⟨Eq.trans (b := vals 7) (by kernel_rfl) (hd 7 (by kernel_rfl)), (by exact Free.d_call Tryd.func33 (by kernel_rfl) (by kernel_rfl) rfl rfl (Free.arg2 (show _ = (.int .i64 2 : Value) from rfl) (Eq.trans (b := vals 11) (by kernel_rfl) (hd 11 (by kernel_rfl)))) ((R1 wq hC).mono fun e w2 h => (by obtain ⟨A2, k2, he, ho, h1, h2, hb⟩ := h; exact ⟨_, he, ⟨A2, k2, rfl, Rd.of_own ho, h1, h2⟩, hb⟩)))⟩
      · exact Free.ob_guard _ rfl 7 48 false rfl rfl fun vals wq hC hd => ⟨Eq.trans (b := vals 7) (by kernel_rfl) (hd 7 (by kernel_rfl)), (by obtain ⟨A12, k12, e12, rd12, le12, mx12⟩ := hd 12 (by kernel_rfl); exact Free.d_conv rfl (Eq.trans (b := vals 12) (by kernel_rfl) e12) (run_str (P := Tryd.prog) 22 9 5 Tryd.underlying22 Tryd.underlying5 Tryd.underlying9 A12 _ k12 _ (2 :: b) rd12 (by simp)) (Below.refl _ _) rfl)⟩
      · exact Free.ob_guard _ rfl 7 48 false rfl rfl fun vals wq hC hd => ⟨Eq.trans (b := vals 7) (by kernel_rfl) (hd 7 (by kernel_rfl)), (by exact Free.d_bin rfl (Eq.trans (b := vals 10) (by kernel_rfl) (hd 10 (by kernel_rfl))) (Eq.trans (b := vals 13) (by kernel_rfl) (hd 13 (by kernel_rfl))) (by go_simp) (by rw [run_neq_str]; simp) rfl)⟩
      · exact Free.ob_plain _ rfl rfl fun vals wq hC hd => (by exact Free.d_pick rfl (Eq.trans (b := vals 7) (by kernel_rfl) (hd 7 (by kernel_rfl))) (Eq.trans (b := vals 14) (by kernel_rfl) (hd 14 (by kernel_rfl))) rfl)
      · exact Free.ob_plain _ rfl rfl fun vals wq hC hd => (by exact Free.d_move rfl (Eq.trans (b := vals 15) (by kernel_rfl) (hd 15 (by kernel_rfl))) rfl)
      · exact Free.ob_guard _ rfl 16 57 false rfl rfl fun vals wq hC hd => ⟨Eq.trans (b := vals 16) (by kernel_rfl) (hd 16 (by kernel_rfl)), (by exact Free.d_move rfl (by kernel_rfl) rfl)⟩
      · exact Free.ob_guard _ rfl 16 57 false rfl rfl fun vals wq hC hd => ⟨Eq.trans (b := vals 16) (by kernel_rfl) (hd 16 (by kernel_rfl)), (by exact Free.d_call Tryd.func28 (by kernel_rfl) (by kernel_rfl) rfl rfl (Free.arg1 (Eq.trans (b := vals 17) (by kernel_rfl) (hd 17 (by kernel_rfl)))) ((L2 wq hC).mono fun e w2 h => (by obtain ⟨A2, k2, he, ho, h1, h2, hb⟩ := h; exact ⟨_, he, ⟨A2, k2, rfl, Rd.of_own ho, h1, h2⟩, hb⟩)))⟩
      · exact Free.ob_guard _ rfl 16 57 false rfl rfl fun vals wq hC hd => ⟨Eq.trans (b := vals 16) (by kernel_rfl) (hd 16 (by kernel_rfl)), (by obtain ⟨A18, k18, e18, rd18, le18, mx18⟩ := hd 18 (by kernel_rfl); exact Free.d_conv rfl (Eq.trans (b := vals 18) (by kernel_rfl) e18) (run_str (P := Tryd.prog) 22 9 5 Tryd.underlying22 Tryd.underlying5 Tryd.underlying9 A18 _ k18 _ (3 :: b) rd18 (by simp)) (Below.refl _ _) rfl)⟩
      · exact Free.ob_guard _ rfl 16 57 false rfl rfl fun vals wq hC hd => ⟨Eq.trans (b := vals 16) (by kernel_rfl) (hd 16 (by kernel_rfl)), (by exact Free.d_move rfl (by kernel_rfl) rfl)⟩
      · exact Free.ob_guard _ rfl 16 57 false rfl rfl fun vals wq hC hd => ⟨Eq.trans (b := vals 16) (by kernel_rfl) (hd 16 (by kernel_rfl)), (by exact Free.d_call Tryd.func33 (by kernel_rfl) (by kernel_rfl) rfl rfl (Free.arg2 (show _ = (.int .i64 3 : Value) from rfl) (Eq.trans (b := vals 20) (by kernel_rfl) (hd 20 (by kernel_rfl)))) ((R2 wq hC).mono fun e w2 h => (by obtain ⟨A2, k2, he, ho, h1, h2, hb⟩ := h; exact ⟨_, he, ⟨A2, k2, rfl, Rd.of_own ho, h1, h2⟩, hb⟩)))⟩
      · exact Free.ob_guard _ rfl 16 57 false rfl rfl fun vals wq hC hd => ⟨Eq.trans (b := vals 16) (by kernel_rfl) (hd 16 (by kernel_rfl)), (by obtain ⟨A21, k21, e21, rd21, le21, mx21⟩ := hd 21 (by kernel_rfl); exact Free.d_conv rfl (Eq.trans (b := vals 21) (by kernel_rfl) e21) (run_str (P := Tryd.prog) 22 9 5 Tryd.underlying22 Tryd.underlying5 Tryd.underlying9 A21 _ k21 _ (3 :: b) rd21 (by simp)) (Below.refl _ _) rfl)⟩
      · exact Free.ob_guard _ rfl 16 57 false rfl rfl fun vals wq hC hd => ⟨Eq.trans (b := vals 16) (by kernel_rfl) (hd 16 (by kernel_rfl)), (by exact Free.d_bin rfl (Eq.trans (b := vals 19) (by kernel_rfl) (hd 19 (by kernel_rfl))) (Eq.trans (b := vals 22) (by kernel_rfl) (hd 22 (by kernel_rfl))) (by go_simp) (by rw [run_neq_str]; simp) rfl)⟩
      · exact Free.ob_plain _ rfl rfl fun vals wq hC hd => (by exact Free.d_pick rfl (Eq.trans (b := vals 16) (by kernel_rfl) (hd 16 (by kernel_rfl))) (Eq.trans (b := vals 23) (by kernel_rfl) (hd 23 (by kernel_rfl))) rfl)
    · intro vals wq hC hd
      have e0 : vals 0 = (.slice A n c) := hd 0 (by decide)
      obtain ⟨A1, k1, e1, rd1, le1, mx1⟩ := hd 1 (by decide)
      have e2 : vals 2 = (sv (0 :: b)) := hd 2 (by decide)
      have e3 : vals 3 = (.slice A n c) := hd 3 (by decide)
      obtain ⟨A4, k4, e4, rd4, le4, mx4⟩ := hd 4 (by decide)
      have e5 : vals 5 = (sv (0 :: b)) := hd 5 (by decide)
      have e6 : vals 6 = (.bool false) := hd 6 (by decide)
      have e7 : vals 7 = (.bool false) := hd 7 (by decide)
      have e8 : vals 8 = (.slice A n c) := hd 8 (by decide)
      obtain ⟨A9, k9, e9, rd9, le9, mx9⟩ := hd 9 (by decide)
      have e10 : vals 10 = (sv (2 :: b)) := hd 10 (by decide)
      have e11 : vals 11 = (.slice A n c) := hd 11 (by decide)
      obtain ⟨A12, k12, e12, rd12, le12, mx12⟩ := hd 12 (by decide)
      have e13 : vals 13 = (sv (2 :: b)) := hd 13 (by decide)
      have e14 : vals 14 = (.bool false) := hd 14 (by decide)
      have e15 : vals 15 = (.bool false) := hd 15 (by decide)
      have e16 : vals 16 = (.bool false) := hd 16 (by decide)
      have e17 : vals 17 = (.slice A n c) := hd 17 (by decide)
      obtain ⟨A18, k18, e18, rd18, le18, mx18⟩ := hd 18 (by decide)
      have e19 : vals 19 = (sv (3 :: b)) := hd 19 (by decide)
      have e20 : vals 20 = (.slice A n c) := hd 20 (by decide)
      obtain ⟨A21, k21, e21, rd21, le21, mx21⟩ := hd 21 (by decide)
      have e22 : vals 22 = (sv (3 :: b)) := hd 22 (by decide)
      have e23 : vals 23 = (.bool false) := hd 23 (by decide)
      have e24 : vals 24 = (.bool false) := hd 24 (by decide)
      simp only [Free.frameOf, List.range, List.range.loop, List.foldl, Free.dstOf, List.getElem?_toArray, List.getElem?_cons_zero, List.getElem?_cons_succ, Option.bind_some, Act.put, List.setIfInBounds_toArray, List.set_cons_zero, List.set_cons_succ, e0, e1, e2, e3, e4, e5, e6, e7, e8, e9, e10, e11, e12, e13, e14, e15, e16, e17, e18, e19, e20, e21, e22, e23, e24]
      refine wpList_nil ?_
      clear hd e0 e1 e2 e3 e4 e5 e6 e7 e8 e9 e10 e11 e12 e13 e14 e15 e16 e17 e18 e19 e20 e21 e22 e23 e24
      clear L0 L1 L2 R0 R1 R2
      have HB7 := Lib.hid (bt HB6.out hC)
      clear hC
      clear HB1 HB2 HB3 HB4 HB5 HB6
      obtain ⟨w7, hw7⟩ : ∃ w7, wq = w7 := ⟨_, rfl⟩
      subst hw7
      by_cases h5 : nl = 32
      · by_cases h6 : nr = 32
        · subst h5 h6
          go_wp2_with fail
          refine (C4.out _ HB7.out HN.out.1 HN.out.2).mono ?_
          rintro e w8 ⟨rfl, hb8⟩
          have HB8 := Lib.hid (bt HB7.out hb8)
          clear hb8
          go_wp2_with fail
          refine (HC8.out _ HB8.out).mono ?_
          rintro e w9 ⟨A9, c9, rfl, ho, h1', h2', hb⟩
          have q9 := run_str (P := Tryd.prog) (w := w9) 22 9 5 Tryd.underlying22 Tryd.underlying5 Tryd.underlying9 A9 (l.length + r.length + 1) c9 _ (1 :: (l ++ r)) (by have h := Rd.of_own ho; exact h) (by simp [List.length_append])
          have HB9 := Lib.hid (bt HB8.out hb)
          clear ho h1' h2' hb
          go_wp2_with fail
          refine (C5.out _).mono ?_
          rintro e w10 ⟨rfl, hb10⟩
          have HB10 := Lib.hid (bt HB9.out hb10)
          clear hb10 q9
          go_wp2_with fail
          refine (knows3_any _ (HT.out.below HB10.out)).mono ?_
          rintro e w11 ⟨rfl, hb11⟩
          have HB11 := Lib.hid (bt HB10.out hb11)
          clear hb11
          go_wp2
          go_ret
          exact ⟨rfl, HB11.out⟩
        · subst h5
          have h6' : ((nr : Int) == 32) = false := by simpa using (by omega : ¬ (nr : Int) = 32)
          go_wp2_with fail
          refine (node_no2 l r _ HN.out.1 (by rw [HN.out.2]; exact h6)).mono ?_
          rintro e w8 ⟨rfl, rfl⟩
          go_wp2_with fail
          refine (HC8.out _ HB7.out).mono ?_
          rintro e w9 ⟨A9, c9, rfl, ho, h1', h2', hb⟩
          have q9 := run_str (P := Tryd.prog) (w := w9) 22 9 5 Tryd.underlying22 Tryd.underlying5 Tryd.underlying9 A9 (l.length + r.length + 1) c9 _ (1 :: (l ++ r)) (by have h := Rd.of_own ho; exact h) (by simp [List.length_append])
          have HB9 := Lib.hid (bt HB7.out hb)
          clear ho h1' h2' hb
          go_wp2_with fail
          refine (knows3_any _ (HT.out.below HB9.out)).mono ?_
          rintro e w11 ⟨rfl, hb11⟩
          have HB11 := Lib.hid (bt HB9.out hb11)
          clear hb11
          go_wp2
          go_ret
          exact ⟨rfl, HB11.out⟩
      · have h5' : ((nl : Int) == 32) = false := by simpa using (by omega : ¬ (nl : Int) = 32)
        go_wp2_with fail
        refine (node_no l r _ (by rw [HN.out.1]; exact h5)).mono ?_
        rintro e w8 ⟨rfl, rfl⟩
        go_wp2_with fail
        refine (HC8.out _ HB7.out).mono ?_
        rintro e w9 ⟨A9, c9, rfl, ho, h1', h2', hb⟩
        have q9 := run_str (P := Tryd.prog) (w := w9) 22 9 5 Tryd.underlying22 Tryd.underlying5 Tryd.underlying9 A9 (l.length + r.length + 1) c9 _ (1 :: (l ++ r)) (by have h := Rd.of_own ho; exact h) (by simp [List.length_append])
        have HB9 := Lib.hid (bt HB7.out hb)
        clear ho h1' h2' hb
        go_wp2_with fail
        refine (knows3_any _ (HT.out.below HB9.out)).mono ?_
        rintro e w11 ⟨rfl, hb11⟩
        have HB11 := Lib.hid (bt HB9.out hb11)
        clear hb11
        go_wp2
        go_ret
        exact ⟨rfl, HB11.out⟩
  · exact skip hbig
end Go.Proofs.YtcnjpcmadkkhfaaDoor
