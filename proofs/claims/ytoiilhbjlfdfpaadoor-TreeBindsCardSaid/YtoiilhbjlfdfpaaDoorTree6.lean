/- The reference's Steps and Climb. No statement of the seat is proved here. -/
import Derived.Test.YtoiilhbjlfdfpaaDoorTree5
namespace Go.Proofs.YtoiilhbjlfdfpaaDoor
set_option linter.unusedVariables false
open Go.RowKit

theorem arg4' {ρ : Operand → Value} {x y z u : Operand} {c d e f : Value} (h : ρ x = c) (h2 : ρ y = d) (h3 : ρ z = e) (h4 : ρ u = f) : (#[x, y, z, u] : Array Operand).map ρ = #[c, d, e, f] := by simp [h, h2, h3, h4]
set_option maxRecDepth 100000 in
set_option maxHeartbeats 4000000 in
theorem rsteps_any : ∀ (q i n : Nat) (w : World), n ≤ q → i < n → n ≤ 1099511627776 → Calls Tryd.prog 22 #[.int .i64 (i : Int), .int .i64 (n : Int)] w fun e w' => e = .returned (.int .i64 ((Tree.sides i n).length : Int)) ∧ w = w'
  | q, i, n, w, hq, hi, hn => by
    by_cases h2 : n < 2
    · have HE := Lib.hid (show Tree.sides i n = [] from Tree.sides_small h2)
      go_enter Tryd.func22, Tryd.ntmps22
      go_wp2
      go_ret
      exact ⟨by rw [HE.out]; rfl, rfl⟩
    · match q, hq with
      | 0, hq => omega
      | q + 1, hq =>
      have hlog := Tree.sides_log 40 i n (by rw [show (2 : Nat) ^ 40 = 1099511627776 by decide]; exact hn) hi
      obtain ⟨k0, hk⟩ : ∃ k0, Tree.sp n = k0 := ⟨_, rfl⟩
      have kp := Tree.sp_pos (n := n) (by omega)
      have kl := Tree.sp_lt (n := n) (by omega)
      rw [hk] at kp kl
      have HSP := Lib.hid (show Tree.spz (n : Int) = k0 by rw [Tree.spz_in (by omega) (by omega), hk])
      by_cases hlt : i < k0
      · have hE := Tree.sides_left (i := i) (n := n) (by omega) (by rw [hk]; exact hlt)
        rw [hk] at hE
        obtain ⟨s, hs⟩ : ∃ s, (Tree.sides i k0).length = s := ⟨_, rfl⟩
        rw [hE, List.length_cons, hs] at hlog
        have HE := Lib.hid (show ((Tree.sides i n).length : Int) = 1 + (s : Int) by rw [hE, List.length_cons, hs]; push_cast; omega)
        have ih := rsteps_any q i k0 w (by omega) hlt (by omega)
        rw [hs] at ih
        have IH := Lib.hid ih
        clear hE hs ih hk
        go_enter Tryd.func22, Tryd.ntmps22
        go_wp2_with fail
        refine (rsplit_any (n : Int) w (by omega) (by omega)).mono ?_
        rintro e w1 ⟨rfl, rfl⟩
        rw [HSP.out]
        go_wp2_with fail
        refine IH.out.mono ?_
        rintro e w1 ⟨rfl, rfl⟩
        go_wp2
        go_ret
        exact ⟨by rw [HE.out]; rfl, rfl⟩
      · have hE := Tree.sides_right (i := i) (n := n) (by omega) (by rw [hk]; exact hlt)
        rw [hk] at hE
        obtain ⟨s, hs⟩ : ∃ s, (Tree.sides (i - k0) (n - k0)).length = s := ⟨_, rfl⟩
        rw [hE, List.length_cons, hs] at hlog
        have HE := Lib.hid (show ((Tree.sides i n).length : Int) = 1 + (s : Int) by rw [hE, List.length_cons, hs]; push_cast; omega)
        have ih := rsteps_any q (i - k0) (n - k0) w (by omega) (by omega) (by omega)
        rw [hs, show ((i - k0 : Nat) : Int) = (i : Int) - (k0 : Int) by omega, show ((n - k0 : Nat) : Int) = (n : Int) - (k0 : Int) by omega] at ih
        have IH := Lib.hid ih
        clear hE hs ih hk
        go_enter Tryd.func22, Tryd.ntmps22
        go_wp2_with fail
        refine (rsplit_any (n : Int) w (by omega) (by omega)).mono ?_
        rintro e w1 ⟨rfl, rfl⟩
        rw [HSP.out]
        go_wp2_with fail
        refine IH.out.mono ?_
        rintro e w1 ⟨rfl, rfl⟩
        go_wp2
        go_ret
        exact ⟨by rw [HE.out]; rfl, rfl⟩
/-- Up from a leaf. -/
abbrev tclimb (d : List UInt8) (i n : Nat) (p : List (List UInt8)) : List UInt8 := Tree.clb tnd tnil d (Tree.sides i n) p
theorem clb_len {d : List UInt8} (hd : d.length ≤ 100000) (S : List Bool) (p : List (List UInt8)) : (Tree.clb tnd tnil d S p).length ≤ 100000 := by
  cases S with
  | nil => exact hd
  | cons s ss =>
    unfold Tree.clb
    split
    · rw [tnd_len]; omega
    · rw [tnd_len]; omega
set_option maxRecDepth 100000 in
set_option maxHeartbeats 16000000 in
theorem rclimb_any : ∀ (q : Nat) (d : List UInt8) (i n : Nat) (A : Option Addr) (c : Nat) (p : List (List UInt8)) (w : World), n ≤ q → d.length ≤ 100000 → i < n → n ≤ 1099511627776 → (∀ s ∈ p, s.length = 32) → p.length = (Tree.sides i n).length → Ss w A p.length c p →
    Calls Tryd.prog 23 #[sv d, .int .i64 (i : Int), .int .i64 (n : Int), .slice A p.length c] w (StrPost (tclimb d i n p) w)
  | q, d, i, n, A, c, p, w, hq, hd, hi, hn, h32, hpl, h => by
    by_cases h2 : n < 2
    · have HE := Lib.hid (show tclimb d i n p = d by unfold tclimb; rw [Tree.sides_small h2]; rfl)
      clear h hpl
      go_enter Tryd.func23, Tryd.ntmps23
      go_wp2
      go_ret
      exact ⟨by rw [HE.out]; rfl, Below.refl _ _⟩
    · match q, hq with
      | 0, hq => omega
      | q + 1, hq =>
      have hlog := Tree.sides_log 40 i n (by rw [show (2 : Nat) ^ 40 = 1099511627776 by decide]; exact hn) hi
      obtain ⟨k0, hk⟩ : ∃ k0, Tree.sp n = k0 := ⟨_, rfl⟩
      have kp := Tree.sp_pos (n := n) (by omega)
      have kl := Tree.sp_lt (n := n) (by omega)
      rw [hk] at kp kl
      have HSP := Lib.hid (show Tree.spz (n : Int) = k0 by rw [Tree.spz_in (by omega) (by omega), hk])
      obtain ⟨m, hm⟩ : ∃ m, p.length = m + 1 := by
        by_cases hc : i < k0
        · rw [Tree.sides_left (by omega) (by rw [hk]; exact hc), List.length_cons] at hpl; exact ⟨_, hpl⟩
        · rw [Tree.sides_right (by omega) (by rw [hk]; exact hc), List.length_cons] at hpl; exact ⟨_, hpl⟩
      have hcap := h.cap
      have hmax := h.max
      rw [maxLen_eq] at hmax
      obtain ⟨b, off, rfl, hbb, hcell, x, hx⟩ := h.at (k := m) (by omega)
      have hp : p = p.take m ++ [x] := by
        have := List.take_add_one (l := p) (i := m)
        rw [hx, List.take_of_length_le (by omega)] at this
        exact this
      have HX := Lib.hid (show ∀ W, Below w.heap.size w W → W.cell? ⟨b, off + m, none⟩ = some (sv x) from fun W hW => (hW.cell (p := ⟨b, off + m, none⟩) hbb).trans (hcell m x hx))
      have HXL := Lib.hid (show x.length ≤ 100000 by rw [h32 x (List.mem_of_getElem? hx)]; omega)
      have HPT := Lib.hid (show (p.take m).length = m by rw [List.length_take]; omega)
      have HP32 := Lib.hid (all_take h32 m)
      have hss : ∀ W, Below w.heap.size w W → Ss W (some ⟨b, off, none⟩) (m + 1) c p := fun W hW => by have := h.keep hW; rw [hm] at this; exact this
      have HSS := Lib.hid hss
      have hmn : m ≤ m + 1 := by omega
      have IH := Lib.hid (show ∀ (A' : Option Addr) (c' i' n' : Nat) (W : World), Ss W A' m c' (p.take m) → (n' ≤ q ∧ i' < n' ∧ n' ≤ 1099511627776 ∧ m = (Tree.sides i' n').length) → Calls Tryd.prog 23 #[sv d, .int .i64 (i' : Int), .int .i64 (n' : Int), .slice A' m c'] W (StrPost (tclimb d i' n' (p.take m)) W) from fun A' c' i' n' W g1 g2 => by
        have := rclimb_any q d i' n' A' c' (p.take m) W g2.1 hd g2.2.1 g2.2.2.1 HP32.out (by rw [HPT.out]; exact g2.2.2.2) (by rw [HPT.out]; exact g1)
        rw [HPT.out] at this
        exact this)
      rw [hm] at hpl ⊢
      have HM := Lib.hid hm
      have c1 : ((m + 1 : Nat) : Int) - 1 = (m : Int) := by omega
      have c2 : ((m : Int) + 1) - 1 = (m : Int) := by omega
      rw [hm] at hcap
      by_cases hlt : i < k0
      · have hsd := Tree.sides_left (i := i) (n := n) (by omega) (by rw [hk]; exact hlt)
        rw [hk] at hsd
        obtain ⟨Y, hY⟩ : ∃ Y, tclimb d i k0 (p.take m) = Y := ⟨_, rfl⟩
        have HE := Lib.hid (show tclimb d i n p = tnd Y x by
          have h1 := Tree.clb_snoc tnd tnil d false (Tree.sides i k0) (p.take m) x
          rw [← hp, ← hsd] at h1
          rw [← hY]
          exact h1)
        have HL1 := Lib.hid (show Y.length ≤ 100000 by rw [← hY]; exact clb_len hd _ _)
        have HLE := Lib.hid (show k0 ≤ q ∧ i < k0 ∧ k0 ≤ 1099511627776 ∧ m = (Tree.sides i k0).length by rw [hsd, List.length_cons] at hpl; exact ⟨by omega, hlt, by omega, by omega⟩)
        rw [hsd, List.length_cons] at hlog
        have hm40 : m ≤ 100 := by have := HLE.out.2.2.2; omega
        replace IH := Lib.hid (fun (A' : Option Addr) (c' : Nat) (i' n' : Nat) (W : World) (g : Ss W A' m c' (p.take m)) (g2 : n' ≤ q ∧ i' < n' ∧ n' ≤ 1099511627776 ∧ m = (Tree.sides i' n').length) => IH.out A' c' i' n' W g g2)
        have IH1 := Lib.hid (show ∀ (A' : Option Addr) (c' : Nat) (W : World), Ss W A' m c' (p.take m) → Calls Tryd.prog 23 #[sv d, .int .i64 (i : Int), .int .i64 (k0 : Int), .slice A' m c'] W (StrPost Y W) from fun A' c' W g => by rw [← hY]; exact IH.out A' c' i k0 W g HLE.out)
        clear hsd hY hpl hlog hcell hx hp h hss h32 hk hm IH
        go_enter Tryd.func23, Tryd.ntmps23
        go_wp2_with fail
        refine (rsplit_any (n : Int) w (by omega) (by omega)).mono ?_
        rintro e w1 ⟨rfl, rfl⟩
        rw [HSP.out]
        go_wp2_with fail
        refine Free.wp_free_l 13 (fun W => Below w.heap.size w W) [Free.kc (sv d), Free.kc (.int .i64 (i : Int)), Free.kc (.int .i64 (k0 : Int)), Free.kc (.slice (some ⟨b, off, none⟩) (m + 1) c), Free.kc (.int .i64 (m : Int)), Free.kr (m) ((p.take m).map sv), Free.kc (sv Y), Free.kc (.slice (some ⟨b, off, none⟩) (m + 1) c), Free.kc (.int .i64 (m : Int)), Free.kc (.pointer (some ⟨b, off + m, none⟩)), Free.kc (sv x), Free.kc (sv (tnd Y x)), Free.kc (sv (tnd Y x))] (by kernel_rfl) (by kernel_rfl) (by decide) (Below.refl _ _).drew (fun w w' h g => bt h g) ?_ ?_
        · refine Free.forall_succ (Free.forall_succ (Free.forall_succ (Free.forall_succ (Free.forall_succ (Free.forall_succ (Free.forall_succ (Free.forall_succ (Free.forall_succ (Free.forall_succ (Free.forall_succ (Free.forall_succ (Free.forall_succ (Free.forall_zero) ?_) ?_) ?_) ?_) ?_) ?_) ?_) ?_) ?_) ?_) ?_) ?_) ?_
          · exact Free.ob_plain _ rfl rfl fun vals wq hC hd => (by exact Free.d_move rfl (by kernel_rfl) rfl)
          · exact Free.ob_plain _ rfl rfl fun vals wq hC hd => (by exact Free.d_move rfl (by kernel_rfl) rfl)
          · exact Free.ob_plain _ rfl rfl fun vals wq hC hd => (by exact Free.d_move rfl (by kernel_rfl) rfl)
          · exact Free.ob_plain _ rfl rfl fun vals wq hC hd => (by exact Free.d_move rfl (by kernel_rfl) rfl)
          · exact Free.ob_plain _ rfl rfl fun vals wq hC hd => (by exact Free.d_move rfl (by kernel_rfl) rfl)
          · exact Free.ob_plain _ rfl rfl fun vals wq hC hd => (by exact (by obtain ⟨A', hrun, hss⟩ := run_cutS_hi (HSS.out wq hC) m hmn; exact Free.d_slice rfl (Eq.trans (b := vals 3) (by kernel_rfl) (hd 3 (by kernel_rfl))) rfl (show _ = some (Value.int .i64 (m : Int)) from congrArg some (Eq.trans (b := vals 4) (by kernel_rfl) (hd 4 (by kernel_rfl)))) rfl hrun ⟨A', c, rfl, hss.rd, hss.cap, hss.max⟩))
          · exact Free.ob_plain _ rfl rfl fun vals wq hC hd => (by obtain ⟨A5, k5, e5, rd5, le5, mx5⟩ := hd 5 (by kernel_rfl); exact Free.d_call Tryd.func23 (by kernel_rfl) (by kernel_rfl) rfl rfl (arg4' (Eq.trans (b := vals 0) (by kernel_rfl) (hd 0 (by kernel_rfl))) (Eq.trans (b := vals 1) (by kernel_rfl) (hd 1 (by kernel_rfl))) (Eq.trans (b := vals 2) (by kernel_rfl) (hd 2 (by kernel_rfl))) (Eq.trans (b := vals 5) (by kernel_rfl) e5)) ((IH1.out A5 k5 wq ⟨rd5, HPT.out, le5, mx5⟩).mono fun e w2 h => ⟨_, h.1, rfl, h.2⟩))
          · exact Free.ob_plain _ rfl rfl fun vals wq hC hd => (by exact Free.d_move rfl (by kernel_rfl) rfl)
          · exact Free.ob_plain _ rfl rfl fun vals wq hC hd => (by exact Free.d_move rfl (by kernel_rfl) rfl)
          · exact Free.ob_plain _ rfl rfl fun vals wq hC hd => (by exact Free.d_indexAddr rfl (Eq.trans (b := vals 7) (by kernel_rfl) (hd 7 (by kernel_rfl))) (Eq.trans (b := vals 8) (by kernel_rfl) (hd 8 (by kernel_rfl))) (run_idx 22 Tryd.underlying22 (by kernel_rfl) b off (m + 1) c m _ (by omega) (by omega)) rfl)
          · exact Free.ob_plain _ rfl rfl fun vals wq hC hd => (by exact Free.d_load rfl (Eq.trans (b := vals 9) (by kernel_rfl) (hd 9 (by kernel_rfl))) (by have hcc := HX.out wq hC; go_simp) rfl)
          · exact Free.ob_plain _ rfl rfl fun vals wq hC hd => (by exact Free.d_call Tryd.func47 (by kernel_rfl) (by kernel_rfl) rfl rfl (Free.arg2 (Eq.trans (b := vals 6) (by kernel_rfl) (hd 6 (by kernel_rfl))) (Eq.trans (b := vals 10) (by kernel_rfl) (hd 10 (by kernel_rfl)))) ((rnode_any _ _ wq HL1.out HXL.out).mono fun e w2 h => ⟨_, h.1, rfl, h.2⟩))
          · exact Free.ob_plain _ rfl rfl fun vals wq hC hd => (by exact Free.d_assign rfl (Eq.trans (b := vals 11) (by kernel_rfl) (hd 11 (by kernel_rfl))) rfl)
        · intro vals wq hC hd
          have e0 : vals 0 = (sv d) := hd 0 (by decide)
          have e1 : vals 1 = (.int .i64 (i : Int)) := hd 1 (by decide)
          have e2 : vals 2 = (.int .i64 (k0 : Int)) := hd 2 (by decide)
          have e3 : vals 3 = (.slice (some ⟨b, off, none⟩) (m + 1) c) := hd 3 (by decide)
          have e4 : vals 4 = (.int .i64 (m : Int)) := hd 4 (by decide)
          obtain ⟨A5, k5, e5, rd5, le5, mx5⟩ := hd 5 (by decide)
          have e6 : vals 6 = (sv Y) := hd 6 (by decide)
          have e7 : vals 7 = (.slice (some ⟨b, off, none⟩) (m + 1) c) := hd 7 (by decide)
          have e8 : vals 8 = (.int .i64 (m : Int)) := hd 8 (by decide)
          have e9 : vals 9 = (.pointer (some ⟨b, off + m, none⟩)) := hd 9 (by decide)
          have e10 : vals 10 = (sv x) := hd 10 (by decide)
          have e11 : vals 11 = (sv (tnd Y x)) := hd 11 (by decide)
          have e12 : vals 12 = (sv (tnd Y x)) := hd 12 (by decide)
          simp only [Free.frameOf, List.range, List.range.loop, List.foldl, Free.dstOf, List.getElem?_toArray, List.getElem?_cons_zero, List.getElem?_cons_succ, Option.bind_some, Act.put, List.setIfInBounds_toArray, List.set_cons_zero, List.set_cons_succ, e0, e1, e2, e3, e4, e5, e6, e7, e8, e9, e10, e11, e12]
          refine wpList_nil ?_
          clear hd e0 e1 e2 e3 e4 e5 e6 e7 e8 e9 e10 e11 e12
          have HB := Lib.hid hC
          clear hC
          go_wp2
          go_ret
          exact ⟨by rw [HE.out]; rfl, HB.out⟩
      · have hsd := Tree.sides_right (i := i) (n := n) (by omega) (by rw [hk]; exact hlt)
        rw [hk] at hsd
        obtain ⟨j, hj⟩ : ∃ j, j + k0 = i := ⟨i - k0, by omega⟩
        obtain ⟨n2, hn2⟩ : ∃ n2, n2 + k0 = n := ⟨n - k0, by omega⟩
        rw [show i - k0 = j by omega, show n - k0 = n2 by omega] at hsd
        obtain ⟨Y, hY⟩ : ∃ Y, tclimb d j n2 (p.take m) = Y := ⟨_, rfl⟩
        have HE := Lib.hid (show tclimb d i n p = tnd x Y by
          have h1 := Tree.clb_snoc tnd tnil d true (Tree.sides j n2) (p.take m) x
          rw [← hp, ← hsd] at h1
          rw [← hY]
          exact h1)
        have HL1 := Lib.hid (show Y.length ≤ 100000 by rw [← hY]; exact clb_len hd _ _)
        have HLE := Lib.hid (show n2 ≤ q ∧ j < n2 ∧ n2 ≤ 1099511627776 ∧ m = (Tree.sides j n2).length by rw [hsd, List.length_cons] at hpl; exact ⟨by omega, by omega, by omega, by omega⟩)
        rw [hsd, List.length_cons] at hlog
        have hm40 : m ≤ 100 := by have := HLE.out.2.2.2; omega
        have IH1 := Lib.hid (show ∀ (A' : Option Addr) (c' : Nat) (W : World), Ss W A' m c' (p.take m) → Calls Tryd.prog 23 #[sv d, .int .i64 (j : Int), .int .i64 (n2 : Int), .slice A' m c'] W (StrPost Y W) from fun A' c' W g => by rw [← hY]; exact IH.out A' c' j n2 W g HLE.out)
        clear hsd hY hpl hlog hcell hx hp h hss h32 hk hm IH
        have hci : ¬ (i : Int) < (k0 : Int) := by omega
        go_enter Tryd.func23, Tryd.ntmps23
        go_wp2_with fail
        refine (rsplit_any (n : Int) w (by omega) (by omega)).mono ?_
        rintro e w1 ⟨rfl, rfl⟩
        rw [HSP.out]
        go_wp2_with fail
        refine Free.wp_free_l 17 (fun W => Below w.heap.size w W) [Free.kc (.slice (some ⟨b, off, none⟩) (m + 1) c), Free.kc (.int .i64 (m : Int)), Free.kc (.pointer (some ⟨b, off + m, none⟩)), Free.kc (sv x), Free.kc (sv d), Free.kc (.int .i64 (i : Int)), Free.kc (.int .i64 (k0 : Int)), Free.kc (.int .i64 (j : Int)), Free.kc (.int .i64 (n : Int)), Free.kc (.int .i64 (k0 : Int)), Free.kc (.int .i64 (n2 : Int)), Free.kc (.slice (some ⟨b, off, none⟩) (m + 1) c), Free.kc (.int .i64 (m : Int)), Free.kr (m) ((p.take m).map sv), Free.kc (sv Y), Free.kc (sv (tnd x Y)), Free.kc (sv (tnd x Y))] (by kernel_rfl) (by kernel_rfl) (by decide) (Below.refl _ _).drew (fun w w' h g => bt h g) ?_ ?_
        · refine Free.forall_succ (Free.forall_succ (Free.forall_succ (Free.forall_succ (Free.forall_succ (Free.forall_succ (Free.forall_succ (Free.forall_succ (Free.forall_succ (Free.forall_succ (Free.forall_succ (Free.forall_succ (Free.forall_succ (Free.forall_succ (Free.forall_succ (Free.forall_succ (Free.forall_succ (Free.forall_zero) ?_) ?_) ?_) ?_) ?_) ?_) ?_) ?_) ?_) ?_) ?_) ?_) ?_) ?_) ?_) ?_) ?_
          · exact Free.ob_plain _ rfl rfl fun vals wq hC hd => (by exact Free.d_move rfl (by kernel_rfl) rfl)
          · exact Free.ob_plain _ rfl rfl fun vals wq hC hd => (by exact Free.d_move rfl (by kernel_rfl) rfl)
          · exact Free.ob_plain _ rfl rfl fun vals wq hC hd => (by exact Free.d_indexAddr rfl (Eq.trans (b := vals 0) (by kernel_rfl) (hd 0 (by kernel_rfl))) (Eq.trans (b := vals 1) (by kernel_rfl) (hd 1 (by kernel_rfl))) (run_idx 22 Tryd.underlying22 (by kernel_rfl) b off (m + 1) c m _ (by omega) (by omega)) rfl)
          · exact Free.ob_plain _ rfl rfl fun vals wq hC hd => (by exact Free.d_load rfl (Eq.trans (b := vals 2) (by kernel_rfl) (hd 2 (by kernel_rfl))) (by have hcc := HX.out wq hC; go_simp) rfl)
          · exact Free.ob_plain _ rfl rfl fun vals wq hC hd => (by exact Free.d_move rfl (by kernel_rfl) rfl)
          · exact Free.ob_plain _ rfl rfl fun vals wq hC hd => (by exact Free.d_move rfl (by kernel_rfl) rfl)
          · exact Free.ob_plain _ rfl rfl fun vals wq hC hd => (by exact Free.d_move rfl (by kernel_rfl) rfl)
          · exact Free.ob_plain _ rfl rfl fun vals wq hC hd => (by exact Free.d_bin rfl (Eq.trans (b := vals 5) (by kernel_rfl) (hd 5 (by kernel_rfl))) (Eq.trans (b := vals 6) (by kernel_rfl) (hd 6 (by kernel_rfl))) (by go_simp) (by first | (go_simp; done) | (go_simp; omega) | (go_simp; rw [IntWalk.i64_in _ (by omega)]; done) | (go_simp; rw [IntWalk.i64_in _ (by omega)]; omega)) rfl)
          · exact Free.ob_plain _ rfl rfl fun vals wq hC hd => (by exact Free.d_move rfl (by kernel_rfl) rfl)
          · exact Free.ob_plain _ rfl rfl fun vals wq hC hd => (by exact Free.d_move rfl (by kernel_rfl) rfl)
          · exact Free.ob_plain _ rfl rfl fun vals wq hC hd => (by exact Free.d_bin rfl (Eq.trans (b := vals 8) (by kernel_rfl) (hd 8 (by kernel_rfl))) (Eq.trans (b := vals 9) (by kernel_rfl) (hd 9 (by kernel_rfl))) (by go_simp) (by first | (go_simp; done) | (go_simp; omega) | (go_simp; rw [IntWalk.i64_in _ (by omega)]; done) | (go_simp; rw [IntWalk.i64_in _ (by omega)]; omega)) rfl)
          · exact Free.ob_plain _ rfl rfl fun vals wq hC hd => (by exact Free.d_move rfl (by kernel_rfl) rfl)
          · exact Free.ob_plain _ rfl rfl fun vals wq hC hd => (by exact Free.d_move rfl (by kernel_rfl) rfl)
          · exact Free.ob_plain _ rfl rfl fun vals wq hC hd => (by exact (by obtain ⟨A', hrun, hss⟩ := run_cutS_hi (HSS.out wq hC) m hmn; exact Free.d_slice rfl (Eq.trans (b := vals 11) (by kernel_rfl) (hd 11 (by kernel_rfl))) rfl (show _ = some (Value.int .i64 (m : Int)) from congrArg some (Eq.trans (b := vals 12) (by kernel_rfl) (hd 12 (by kernel_rfl)))) rfl hrun ⟨A', c, rfl, hss.rd, hss.cap, hss.max⟩))
          · exact Free.ob_plain _ rfl rfl fun vals wq hC hd => (by obtain ⟨A13, k13, e13, rd13, le13, mx13⟩ := hd 13 (by kernel_rfl); exact Free.d_call Tryd.func23 (by kernel_rfl) (by kernel_rfl) rfl rfl (arg4' (Eq.trans (b := vals 4) (by kernel_rfl) (hd 4 (by kernel_rfl))) (Eq.trans (b := vals 7) (by kernel_rfl) (hd 7 (by kernel_rfl))) (Eq.trans (b := vals 10) (by kernel_rfl) (hd 10 (by kernel_rfl))) (Eq.trans (b := vals 13) (by kernel_rfl) e13)) ((IH1.out A13 k13 wq ⟨rd13, HPT.out, le13, mx13⟩).mono fun e w2 h => ⟨_, h.1, rfl, h.2⟩))
          · exact Free.ob_plain _ rfl rfl fun vals wq hC hd => (by exact Free.d_call Tryd.func47 (by kernel_rfl) (by kernel_rfl) rfl rfl (Free.arg2 (Eq.trans (b := vals 3) (by kernel_rfl) (hd 3 (by kernel_rfl))) (Eq.trans (b := vals 14) (by kernel_rfl) (hd 14 (by kernel_rfl)))) ((rnode_any _ _ wq HXL.out HL1.out).mono fun e w2 h => ⟨_, h.1, rfl, h.2⟩))
          · exact Free.ob_plain _ rfl rfl fun vals wq hC hd => (by exact Free.d_assign rfl (Eq.trans (b := vals 15) (by kernel_rfl) (hd 15 (by kernel_rfl))) rfl)
        · intro vals wq hC hd
          have e0 : vals 0 = (.slice (some ⟨b, off, none⟩) (m + 1) c) := hd 0 (by decide)
          have e1 : vals 1 = (.int .i64 (m : Int)) := hd 1 (by decide)
          have e2 : vals 2 = (.pointer (some ⟨b, off + m, none⟩)) := hd 2 (by decide)
          have e3 : vals 3 = (sv x) := hd 3 (by decide)
          have e4 : vals 4 = (sv d) := hd 4 (by decide)
          have e5 : vals 5 = (.int .i64 (i : Int)) := hd 5 (by decide)
          have e6 : vals 6 = (.int .i64 (k0 : Int)) := hd 6 (by decide)
          have e7 : vals 7 = (.int .i64 (j : Int)) := hd 7 (by decide)
          have e8 : vals 8 = (.int .i64 (n : Int)) := hd 8 (by decide)
          have e9 : vals 9 = (.int .i64 (k0 : Int)) := hd 9 (by decide)
          have e10 : vals 10 = (.int .i64 (n2 : Int)) := hd 10 (by decide)
          have e11 : vals 11 = (.slice (some ⟨b, off, none⟩) (m + 1) c) := hd 11 (by decide)
          have e12 : vals 12 = (.int .i64 (m : Int)) := hd 12 (by decide)
          obtain ⟨A13, k13, e13, rd13, le13, mx13⟩ := hd 13 (by decide)
          have e14 : vals 14 = (sv Y) := hd 14 (by decide)
          have e15 : vals 15 = (sv (tnd x Y)) := hd 15 (by decide)
          have e16 : vals 16 = (sv (tnd x Y)) := hd 16 (by decide)
          simp only [Free.frameOf, List.range, List.range.loop, List.foldl, Free.dstOf, List.getElem?_toArray, List.getElem?_cons_zero, List.getElem?_cons_succ, Option.bind_some, Act.put, List.setIfInBounds_toArray, List.set_cons_zero, List.set_cons_succ, e0, e1, e2, e3, e4, e5, e6, e7, e8, e9, e10, e11, e12, e13, e14, e15, e16]
          refine wpList_nil ?_
          clear hd e0 e1 e2 e3 e4 e5 e6 e7 e8 e9 e10 e11 e12 e13 e14 e15 e16
          have HB := Lib.hid hC
          clear hC
          go_wp2
          go_ret
          exact ⟨by rw [HE.out]; rfl, HB.out⟩
end Go.Proofs.YtoiilhbjlfdfpaaDoor
