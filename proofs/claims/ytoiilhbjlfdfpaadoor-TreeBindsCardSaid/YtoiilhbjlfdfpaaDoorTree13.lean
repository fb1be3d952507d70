/- ways of the law: what a path's steps seal. No statement of the seat is proved here. -/
import Derived.Test.YtoiilhbjlfdfpaaDoorTree12
namespace Go.Proofs.YtoiilhbjlfdfpaaDoor
set_option linter.unusedVariables false
open Go.RowKit

theorem run_cat {P : Program} {w : World} (T : TypeId) (a b : List UInt8) (h : a.length + b.length ≤ 1000000) : (binOp .add T (.string (str a)) (.string (str b))).run P w = .ok (sv (a ++ b)) w := by
  have h2 : ¬ (((str a).size + (str b).size : Nat) : Int) > IntKind.i64.max := by
    rw [strLen, strLen]
    have : IntKind.i64.max = 9223372036854775807 := by decide
    rw [this]; omega
  rw [binOp_string_add, Op.stringOp]
  simp only [if_neg h2, Sem.run_pure, strApp]
/-- What a path's steps seal, from the leaf up. -/
def wys (d : List UInt8) : List Bool → List (List UInt8) → List (List UInt8)
  | [], _ => []
  | s :: ss, p => wys d ss p.dropLast ++ [if s then [1] ++ p.getLastD tnil ++ Tree.clb tnd tnil d ss p.dropLast else [1] ++ Tree.clb tnd tnil d ss p.dropLast ++ p.getLastD tnil]
theorem wys_snoc (d : List UInt8) (s : Bool) (ss : List Bool) (p : List (List UInt8)) (x : List UInt8) : wys d (s :: ss) (p ++ [x]) = wys d ss p ++ [if s then [1] ++ x ++ Tree.clb tnd tnil d ss p else [1] ++ Tree.clb tnd tnil d ss p ++ x] := by
  have h1 : (p ++ [x]).dropLast = p := List.dropLast_concat
  have h2 : (p ++ [x]).getLastD tnil = x := by simp
  rw [wys, h1, h2]
theorem wys_len (d : List UInt8) : ∀ (S : List Bool) (p : List (List UInt8)), (wys d S p).length = S.length
  | [], p => rfl
  | s :: S, p => by rw [wys, List.length_append, wys_len d S, List.length_singleton]; rfl
set_option maxRecDepth 100000 in
set_option maxHeartbeats 16000000 in
theorem ways_any : ∀ (q : Nat) (d : List UInt8) (i n : Nat) (A : Option Addr) (c : Nat) (p : List (List UInt8)) (w : World), n ≤ q → d.length ≤ 100000 → i < n → n ≤ 1099511627776 → (∀ s ∈ p, s.length = 32) → p.length = (Tree.sides i n).length → Ss w A p.length c p →
    Calls Tryd.prog 32 #[sv d, .int .i64 (i : Int), .int .i64 (n : Int), .slice A p.length c] w (OwnSPost w.heap.size (wys d (Tree.sides i n) p) w)
  | q, d, i, n, A, c, p, w, hq, hd, hi, hn, h32, hpl, h => by
    by_cases h2 : n < 2
    · have HE := Lib.hid (show wys d (Tree.sides i n) p = [] by rw [Tree.sides_small h2]; rfl)
      clear h hpl
      go_enter Tryd.func32, Tryd.ntmps32
      go_wp2
      go_ret
      exact ⟨none, 0, 0, rfl, by rw [HE.out]; exact OwnS.nil _ _, Below.refl _ _⟩
    · match q, hq with
      | 0, hq => omega
      | q + 1, hq =>
      have hlog := Tree.sides_log 40 i n (by rw [show (2 : Nat) ^ 40 = 1099511627776 by decide]; exact hn) hi
      obtain ⟨k0, hk⟩ : ∃ k0, Tree.sp n = k0 := ⟨_, rfl⟩
      have kp := Tree.sp_pos (n := n) (by omega)
      have kl := Tree.sp_lt (n := n) (by omega)
      rw [hk] at kp kl
      have HSP := Lib.hid (show Tree.spz (n : Int) = k0 by rw [Tree.spz_in (by omega) (by omega), hk])
      obtain ⟨m, hm⟩ : ∃ m, p.length = m + 1 := by
        by_cases hc : i < k0
        · rw [Tree.sides_left (by omega) (by rw [hk]; exact hc), List.length_cons] at hpl; exact ⟨_, hpl⟩
        · rw [Tree.sides_right (by omega) (by rw [hk]; exact hc), List.length_cons] at hpl; exact ⟨_, hpl⟩
      have hcap := h.cap
      have hmax := h.max
      rw [maxLen_eq] at hmax
      obtain ⟨b, off, rfl, hbb, hcell, x, hx⟩ := h.at (k := m) (by omega)
      have hp : p = p.take m ++ [x] := by
        have := List.take_add_one (l := p) (i := m)
        rw [hx, List.take_of_length_le (by omega)] at this
        exact this
      have HX := Lib.hid (show ∀ W, Below w.heap.size w W → W.cell? ⟨b, off + m, none⟩ = some (sv x) from fun W hW => (hW.cell (p := ⟨b, off + m, none⟩) hbb).trans (hcell m x hx))
      have HXL := Lib.hid (show x.length ≤ 100000 by rw [h32 x (List.mem_of_getElem? hx)]; omega)
      have HPT := Lib.hid (show (p.take m).length = m by rw [List.length_take]; omega)
      have HP32 := Lib.hid (all_take h32 m)
      have hss : ∀ W, Below w.heap.size w W → Ss W (some ⟨b, off, none⟩) (m + 1) c p := fun W hW => by have := h.keep hW; rw [hm] at this; exact this
      have HSS := Lib.hid hss
      have hmn : m ≤ m + 1 := by omega
      have IH := Lib.hid (show ∀ (A' : Option Addr) (c' i' n' : Nat) (W : World), Ss W A' m c' (p.take m) → (n' ≤ q ∧ i' < n' ∧ n' ≤ 1099511627776 ∧ m = (Tree.sides i' n').length) → Calls Tryd.prog 32 #[sv d, .int .i64 (i' : Int), .int .i64 (n' : Int), .slice A' m c'] W (OwnSPost W.heap.size (wys d (Tree.sides i' n') (p.take m)) W) from fun A' c' i' n' W g1 g2 => by
        have := ways_any q d i' n' A' c' (p.take m) W g2.1 hd g2.2.1 g2.2.2.1 HP32.out (by rw [HPT.out]; exact g2.2.2.2) (by rw [HPT.out]; exact g1)
        rw [HPT.out] at this
        exact this)
      have RC := Lib.hid (show ∀ (A' : Option Addr) (c' i' n' : Nat) (W : World), Ss W A' m c' (p.take m) → (n' ≤ q ∧ i' < n' ∧ n' ≤ 1099511627776 ∧ m = (Tree.sides i' n').length) → Calls Tryd.prog 23 #[sv d, .int .i64 (i' : Int), .int .i64 (n' : Int), .slice A' m c'] W (StrPost (tclimb d i' n' (p.take m)) W) from fun A' c' i' n' W g1 g2 => by
        have := rclimb_any q d i' n' A' c' (p.take m) W g2.1 hd g2.2.1 g2.2.2.1 HP32.out (by rw [HPT.out]; exact g2.2.2.2) (by rw [HPT.out]; exact g1)
        rw [HPT.out] at this
        exact this)
      rw [hm] at hpl ⊢
      have HM := Lib.hid hm
      have c1 : ((m + 1 : Nat) : Int) - 1 = (m : Int) := by omega
      have c2 : ((m : Int) + 1) - 1 = (m : Int) := by omega
      rw [hm] at hcap
      by_cases hlt : i < k0
      · have hsd := Tree.sides_left (i := i) (n := n) (by omega) (by rw [hk]; exact hlt)
        rw [hk] at hsd
        obtain ⟨Y, hY⟩ : ∃ Y, tclimb d i k0 (p.take m) = Y := ⟨_, rfl⟩
        obtain ⟨V, hV⟩ : ∃ V, wys d (Tree.sides i k0) (p.take m) = V := ⟨_, rfl⟩
        have HE := Lib.hid (show wys d (Tree.sides i n) p = V ++ [[1] ++ Y ++ x] by
          have h1 := wys_snoc d false (Tree.sides i k0) (p.take m) x
          rw [← hp, ← hsd] at h1
          rw [← hY, ← hV]
          exact h1)
        have HLE := Lib.hid (show k0 ≤ q ∧ i < k0 ∧ k0 ≤ 1099511627776 ∧ m = (Tree.sides i k0).length by rw [hsd, List.length_cons] at hpl; exact ⟨by omega, hlt, by omega, by omega⟩)
        rw [hsd, List.length_cons] at hlog
        have hm40 : m ≤ 100 := by have := HLE.out.2.2.2; omega
        have HL1 := Lib.hid (show Y.length ≤ 100000 by rw [← hY]; exact clb_len hd _ _)
        have HVL := Lib.hid (show V.length ≤ 100 by rw [← hV, wys_len]; omega)
        have IHW := Lib.hid (show ∀ (A' : Option Addr) (c' : Nat) (W : World), Ss W A' m c' (p.take m) → Calls Tryd.prog 32 #[sv d, .int .i64 (i : Int), .int .i64 (k0 : Int), .slice A' m c'] W (OwnSPost W.heap.size V W) from fun A' c' W g => by rw [← hV]; exact IH.out A' c' i k0 W g HLE.out)
        have HCL := Lib.hid (show ∀ (A' : Option Addr) (c' : Nat) (W : World), Ss W A' m c' (p.take m) → Calls Tryd.prog 23 #[sv d, .int .i64 (i : Int), .int .i64 (k0 : Int), .slice A' m c'] W (StrPost Y W) from fun A' c' W g => by rw [← hY]; exact RC.out A' c' i k0 W g HLE.out)
        unfold OwnSPost at IHW
        clear hsd hY hV hpl hlog hcell hx hp h hss h32 hk hm IH RC
        go_enter Tryd.func32, Tryd.ntmps32
        go_wp2_with fail
        refine (rsplit_any (n : Int) w (by omega) (by omega)).mono ?_
        rintro e w1 ⟨rfl, rfl⟩
        rw [HSP.out]
        go_wp2_with fail
        refine Free.wp_free_l 21 (fun W => Below w.heap.size w W) [Free.kc (sv d), Free.kc (.int .i64 (i : Int)), Free.kc (.int .i64 (k0 : Int)), Free.kc (.slice (some ⟨b, off, none⟩) (m + 1) c), Free.kc (.int .i64 (m : Int)), Free.kr (m) ((p.take m).map sv), Free.kO (w.heap.size) (V), Free.kc (sv d), Free.kc (.int .i64 (i : Int)), Free.kc (.int .i64 (k0 : Int)), Free.kc (.slice (some ⟨b, off, none⟩) (m + 1) c), Free.kc (.int .i64 (m : Int)), Free.kr (m) ((p.take m).map sv), Free.kc (sv Y), Free.kc (sv ([1] ++ Y)), Free.kc (.slice (some ⟨b, off, none⟩) (m + 1) c), Free.kc (.int .i64 (m : Int)), Free.kc (.pointer (some ⟨b, off + m, none⟩)), Free.kc (sv x), Free.kc (sv ([1] ++ Y ++ x)), Free.kr (1) ([sv ([1] ++ Y ++ x)])] (by kernel_rfl) (by kernel_rfl) (by decide) (Below.refl _ _).drew (fun w w' h g => bt h g) ?_ ?_
        · refine Free.forall_succ (Free.forall_succ (Free.forall_succ (Free.forall_succ (Free.forall_succ (Free.forall_succ (Free.forall_succ (Free.forall_succ (Free.forall_succ (Free.forall_succ (Free.forall_succ (Free.forall_succ (Free.forall_succ (Free.forall_succ (Free.forall_succ (Free.forall_succ (Free.forall_succ (Free.forall_succ (Free.forall_succ (Free.forall_succ (Free.forall_succ (Free.forall_zero) ?_) ?_) ?_) ?_) ?_) ?_) ?_) ?_) ?_) ?_) ?_) ?_) ?_) ?_) ?_) ?_) ?_) ?_) ?_) ?_) ?_
          · exact Free.ob_plain _ rfl rfl fun vals wq hC hd => (by exact Free.d_move rfl (by kernel_rfl) rfl)
          · exact Free.ob_plain _ rfl rfl fun vals wq hC hd => (by exact Free.d_move rfl (by kernel_rfl) rfl)
          · exact Free.ob_plain _ rfl rfl fun vals wq hC hd => (by exact Free.d_move rfl (by kernel_rfl) rfl)
          · exact Free.ob_plain _ rfl rfl fun vals wq hC hd => (by exact Free.d_move rfl (by kernel_rfl) rfl)
          · exact Free.ob_plain _ rfl rfl fun vals wq hC hd => (by exact Free.d_move rfl (by kernel_rfl) rfl)
          · exact Free.ob_plain _ rfl rfl fun vals wq hC hd => (by exact (by obtain ⟨A', hrun, hss⟩ := run_cutS_hi (HSS.out wq hC) m hmn; exact Free.d_slice rfl (Eq.trans (b := vals 3) (by kernel_rfl) (hd 3 (by kernel_rfl))) rfl (show _ = some (Value.int .i64 (m : Int)) from congrArg some (Eq.trans (b := vals 4) (by kernel_rfl) (hd 4 (by kernel_rfl)))) rfl hrun ⟨A', c, rfl, hss.rd, hss.cap, hss.max⟩))
          · exact Free.ob_plain _ rfl rfl fun vals wq hC hd => (by obtain ⟨A5, k5, e5, rd5, le5, mx5⟩ := hd 5 (by kernel_rfl); exact Free.d_call Tryd.func32 (by kernel_rfl) (by kernel_rfl) rfl rfl (arg4' (Eq.trans (b := vals 0) (by kernel_rfl) (hd 0 (by kernel_rfl))) (Eq.trans (b := vals 1) (by kernel_rfl) (hd 1 (by kernel_rfl))) (Eq.trans (b := vals 2) (by kernel_rfl) (hd 2 (by kernel_rfl))) (Eq.trans (b := vals 5) (by kernel_rfl) e5)) ((IHW.out A5 k5 wq ⟨rd5, HPT.out, le5, mx5⟩).mono fun e w2 h => (by obtain ⟨A1, n1, c1, he, ho, hb⟩ := h; exact ⟨_, he, ⟨A1, n1, c1, rfl, ho.base hC.size⟩, hb⟩)))
          · exact Free.ob_plain _ rfl rfl fun vals wq hC hd => (by exact Free.d_move rfl (by kernel_rfl) rfl)
          · exact Free.ob_plain _ rfl rfl fun vals wq hC hd => (by exact Free.d_move rfl (by kernel_rfl) rfl)
          · exact Free.ob_plain _ rfl rfl fun vals wq hC hd => (by exact Free.d_move rfl (by kernel_rfl) rfl)
          · exact Free.ob_plain _ rfl rfl fun vals wq hC hd => (by exact Free.d_move rfl (by kernel_rfl) rfl)
          · exact Free.ob_plain _ rfl rfl fun vals wq hC hd => (by exact Free.d_move rfl (by kernel_rfl) rfl)
          · exact Free.ob_plain _ rfl rfl fun vals wq hC hd => (by exact (by obtain ⟨A', hrun, hss⟩ := run_cutS_hi (HSS.out wq hC) m hmn; exact Free.d_slice rfl (Eq.trans (b := vals 10) (by kernel_rfl) (hd 10 (by kernel_rfl))) rfl (show _ = some (Value.int .i64 (m : Int)) from congrArg some (Eq.trans (b := vals 11) (by kernel_rfl) (hd 11 (by kernel_rfl)))) rfl hrun ⟨A', c, rfl, hss.rd, hss.cap, hss.max⟩))
          · exact Free.ob_plain _ rfl rfl fun vals wq hC hd => (by obtain ⟨A12, k12, e12, rd12, le12, mx12⟩ := hd 12 (by kernel_rfl); exact Free.d_call Tryd.func23 (by kernel_rfl) (by kernel_rfl) rfl rfl (arg4' (Eq.trans (b := vals 7) (by kernel_rfl) (hd 7 (by kernel_rfl))) (Eq.trans (b := vals 8) (by kernel_rfl) (hd 8 (by kernel_rfl))) (Eq.trans (b := vals 9) (by kernel_rfl) (hd 9 (by kernel_rfl))) (Eq.trans (b := vals 12) (by kernel_rfl) e12)) ((HCL.out A12 k12 wq ⟨rd12, HPT.out, le12, mx12⟩).mono fun e w2 h => ⟨_, h.1, rfl, h.2⟩))
          · exact Free.ob_plain _ rfl rfl fun vals wq hC hd => (by exact Free.d_bin rfl (show _ = sv [1] from rfl) (Eq.trans (b := vals 13) (by kernel_rfl) (hd 13 (by kernel_rfl))) (by go_simp) (run_cat _ _ _ (by have a1 := HXL.out; have a2 := HL1.out; simp; omega)) rfl)
          · exact Free.ob_plain _ rfl rfl fun vals wq hC hd => (by exact Free.d_move rfl (by kernel_rfl) rfl)
          · exact Free.ob_plain _ rfl rfl fun vals wq hC hd => (by exact Free.d_move rfl (by kernel_rfl) rfl)
          · exact Free.ob_plain _ rfl rfl fun vals wq hC hd => (by exact Free.d_indexAddr rfl (Eq.trans (b := vals 15) (by kernel_rfl) (hd 15 (by kernel_rfl))) (Eq.trans (b := vals 16) (by kernel_rfl) (hd 16 (by kernel_rfl))) (run_idx 22 Tryd.underlying22 (by kernel_rfl) b off (m + 1) c m _ (by omega) (by omega)) rfl)
          · exact Free.ob_plain _ rfl rfl fun vals wq hC hd => (by exact Free.d_load rfl (Eq.trans (b := vals 17) (by kernel_rfl) (hd 17 (by kernel_rfl))) (by have hcc := HX.out wq hC; go_simp) rfl)
          · exact Free.ob_plain _ rfl rfl fun vals wq hC hd => (by exact Free.d_bin rfl (Eq.trans (b := vals 14) (by kernel_rfl) (hd 14 (by kernel_rfl))) (Eq.trans (b := vals 18) (by kernel_rfl) (hd 18 (by kernel_rfl))) (by go_simp) (run_cat _ _ _ (by have a1 := HXL.out; have a2 := HL1.out; simp; omega)) rfl)
          · exact Free.ob_plain _ rfl rfl fun vals wq hC hd => (by exact Free.d_build (w' := wq.alloc (.cells ([sv ([1] ++ Y ++ x)] : List Value).toArray 9)) rfl (Free.parts1 (Eq.trans (b := vals 19) (by kernel_rfl) (hd 19 (by kernel_rfl)))) (by go_simp) ((Below.refl _ _).alloc (Nat.le_refl _) _) ⟨_, _, rfl, (rd_new wq [_] _ _).more (by unfold World.alloc; simp), Nat.le_refl _, by rw [maxLen_eq]; omega⟩)
        · intro vals wq hC hd
          have e0 : vals 0 = (sv d) := hd 0 (by decide)
          have e1 : vals 1 = (.int .i64 (i : Int)) := hd 1 (by decide)
          have e2 : vals 2 = (.int .i64 (k0 : Int)) := hd 2 (by decide)
          have e3 : vals 3 = (.slice (some ⟨b, off, none⟩) (m + 1) c) := hd 3 (by decide)
          have e4 : vals 4 = (.int .i64 (m : Int)) := hd 4 (by decide)
          obtain ⟨A5, k5, e5, rd5, le5, mx5⟩ := hd 5 (by decide)
          obtain ⟨A6, n6, k6, e6, ow6⟩ := hd 6 (by decide)
          have e7 : vals 7 = (sv d) := hd 7 (by decide)
          have e8 : vals 8 = (.int .i64 (i : Int)) := hd 8 (by decide)
          have e9 : vals 9 = (.int .i64 (k0 : Int)) := hd 9 (by decide)
          have e10 : vals 10 = (.slice (some ⟨b, off, none⟩) (m + 1) c) := hd 10 (by decide)
          have e11 : vals 11 = (.int .i64 (m : Int)) := hd 11 (by decide)
          obtain ⟨A12, k12, e12, rd12, le12, mx12⟩ := hd 12 (by decide)
          have e13 : vals 13 = (sv Y) := hd 13 (by decide)
          have e14 : vals 14 = (sv ([1] ++ Y)) := hd 14 (by decide)
          have e15 : vals 15 = (.slice (some ⟨b, off, none⟩) (m + 1) c) := hd 15 (by decide)
          have e16 : vals 16 = (.int .i64 (m : Int)) := hd 16 (by decide)
          have e17 : vals 17 = (.pointer (some ⟨b, off + m, none⟩)) := hd 17 (by decide)
          have e18 : vals 18 = (sv x) := hd 18 (by decide)
          have e19 : vals 19 = (sv ([1] ++ Y ++ x)) := hd 19 (by decide)
          obtain ⟨A20, k20, e20, rd20, le20, mx20⟩ := hd 20 (by decide)
          simp only [Free.frameOf, List.range, List.range.loop, List.foldl, Free.dstOf, List.getElem?_toArray, List.getElem?_cons_zero, List.getElem?_cons_succ, Option.bind_some, Act.put, List.setIfInBounds_toArray, List.set_cons_zero, List.set_cons_succ, e0, e1, e2, e3, e4, e5, e6, e7, e8, e9, e10, e11, e12, e13, e14, e15, e16, e17, e18, e19, e20]
          clear hd e0 e1 e2 e3 e4 e5 e6 e7 e8 e9 e10 e11 e12 e13 e14 e15 e16 e17 e18 e19 e20
          have hs1 : Ss wq A20 1 k20 [[1] ++ Y ++ x] := ⟨rd20, rfl, le20, mx20⟩
          have HB := Lib.hid hC
          have hnp : n6 ≤ 100 := by rw [← ow6.len]; exact HVL.out
          clear hC rd20
          refine wl_appSS rfl (.tmp 27) (.tmp 41) rfl rfl ow6 rfl hs1 (by omega) HB.out.size ?_
          intro A' n' c' w' ho' hb'
          simp only [Act.put, List.setIfInBounds_toArray, List.set_cons_succ, List.set_cons_zero]
          go_wp2_with fail
          go_ret
          exact ⟨A', n', c', rfl, by rw [HE.out]; exact ho', HB.out.trans hb'⟩
      · have hsd := Tree.sides_right (i := i) (n := n) (by omega) (by rw [hk]; exact hlt)
        rw [hk] at hsd
        obtain ⟨j, hj⟩ : ∃ j, j + k0 = i := ⟨i - k0, by omega⟩
        obtain ⟨n2, hn2⟩ : ∃ n2, n2 + k0 = n := ⟨n - k0, by omega⟩
        rw [show i - k0 = j by omega, show n - k0 = n2 by omega] at hsd
        obtain ⟨Y, hY⟩ : ∃ Y, tclimb d j n2 (p.take m) = Y := ⟨_, rfl⟩
        obtain ⟨V, hV⟩ : ∃ V, wys d (Tree.sides j n2) (p.take m) = V := ⟨_, rfl⟩
        have HE := Lib.hid (show wys d (Tree.sides i n) p = V ++ [[1] ++ x ++ Y] by
          have h1 := wys_snoc d true (Tree.sides j n2) (p.take m) x
          rw [← hp, ← hsd] at h1
          rw [← hY, ← hV]
          exact h1)
        have HLE := Lib.hid (show n2 ≤ q ∧ j < n2 ∧ n2 ≤ 1099511627776 ∧ m = (Tree.sides j n2).length by rw [hsd, List.length_cons] at hpl; exact ⟨by omega, by omega, by omega, by omega⟩)
        rw [hsd, List.length_cons] at hlog
        have hm40 : m ≤ 100 := by have := HLE.out.2.2.2; omega
        have HL1 := Lib.hid (show Y.length ≤ 100000 by rw [← hY]; exact clb_len hd _ _)
        have HVL := Lib.hid (show V.length ≤ 100 by rw [← hV, wys_len]; omega)
        have IHW := Lib.hid (show ∀ (A' : Option Addr) (c' : Nat) (W : World), Ss W A' m c' (p.take m) → Calls Tryd.prog 32 #[sv d, .int .i64 (j : Int), .int .i64 (n2 : Int), .slice A' m c'] W (OwnSPost W.heap.size V W) from fun A' c' W g => by rw [← hV]; exact IH.out A' c' j n2 W g HLE.out)
        have HCL := Lib.hid (show ∀ (A' : Option Addr) (c' : Nat) (W : World), Ss W A' m c' (p.take m) → Calls Tryd.prog 23 #[sv d, .int .i64 (j : Int), .int .i64 (n2 : Int), .slice A' m c'] W (StrPost Y W) from fun A' c' W g => by rw [← hY]; exact RC.out A' c' j n2 W g HLE.out)
        unfold OwnSPost at IHW
        clear hsd hY hV hpl hlog hcell hx hp h hss h32 hk hm IH RC
        have hci : ¬ (i : Int) < (k0 : Int) := by omega
        go_enter Tryd.func32, Tryd.ntmps32
        go_wp2_with fail
        refine (rsplit_any (n : Int) w (by omega) (by omega)).mono ?_
        rintro e w1 ⟨rfl, rfl⟩
        rw [HSP.out]
        go_wp2_with fail
        refine Free.wp_free_l 29 (fun W => Below w.heap.size w W) [Free.kc (sv d), Free.kc (.int .i64 (i : Int)), Free.kc (.int .i64 (k0 : Int)), Free.kc (.int .i64 (j : Int)), Free.kc (.int .i64 (n : Int)), Free.kc (.int .i64 (k0 : Int)), Free.kc (.int .i64 (n2 : Int)), Free.kc (.slice (some ⟨b, off, none⟩) (m + 1) c), Free.kc (.int .i64 (m : Int)), Free.kr (m) ((p.take m).map sv), Free.kO (w.heap.size) (V), Free.kc (.slice (some ⟨b, off, none⟩) (m + 1) c), Free.kc (.int .i64 (m : Int)), Free.kc (.pointer (some ⟨b, off + m, none⟩)), Free.kc (sv x), Free.kc (sv ([1] ++ x)), Free.kc (sv d), Free.kc (.int .i64 (i : Int)), Free.kc (.int .i64 (k0 : Int)), Free.kc (.int .i64 (j : Int)), Free.kc (.int .i64 (n : Int)), Free.kc (.int .i64 (k0 : Int)), Free.kc (.int .i64 (n2 : Int)), Free.kc (.slice (some ⟨b, off, none⟩) (m + 1) c), Free.kc (.int .i64 (m : Int)), Free.kr (m) ((p.take m).map sv), Free.kc (sv Y), Free.kc (sv ([1] ++ x ++ Y)), Free.kr (1) ([sv ([1] ++ x ++ Y)])] (by kernel_rfl) (by kernel_rfl) (by decide) (Below.refl _ _).drew (fun w w' h g => bt h g) ?_ ?_
        · refine Free.forall_succ (Free.forall_succ (Free.forall_succ (Free.forall_succ (Free.forall_succ (Free.forall_succ (Free.forall_succ (Free.forall_succ (Free.forall_succ (Free.forall_succ (Free.forall_succ (Free.forall_succ (Free.forall_succ (Free.forall_succ (Free.forall_succ (Free.forall_succ (Free.forall_succ (Free.forall_succ (Free.forall_succ (Free.forall_succ (Free.forall_succ (Free.forall_succ (Free.forall_succ (Free.forall_succ (Free.forall_succ (Free.forall_succ (Free.forall_succ (Free.forall_succ (Free.forall_succ (Free.forall_zero) ?_) ?_) ?_) ?_) ?_) ?_) ?_) ?_) ?_) ?_) ?_) ?_) ?_) ?_) ?_) ?_) ?_) ?_) ?_) ?_) ?_) ?_) ?_) ?_) ?_) ?_) ?_) ?_) ?_
          · exact Free.ob_plain _ rfl rfl fun vals wq hC hd => (by exact Free.d_move rfl (by kernel_rfl) rfl)
          · exact Free.ob_plain _ rfl rfl fun vals wq hC hd => (by exact Free.d_move rfl (by kernel_rfl) rfl)
          · exact Free.ob_plain _ rfl rfl fun vals wq hC hd => (by exact Free.d_move rfl (by kernel_rfl) rfl)
          · exact Free.ob_plain _ rfl rfl fun vals wq hC hd => (by exact Free.d_bin rfl (Eq.trans (b := vals 1) (by kernel_rfl) (hd 1 (by kernel_rfl))) (Eq.trans (b := vals 2) (by kernel_rfl) (hd 2 (by kernel_rfl))) (by go_simp) (by first | (go_simp; done) | (go_simp; omega) | (go_simp; rw [IntWalk.i64_in _ (by omega)]; done) | (go_simp; rw [IntWalk.i64_in _ (by omega)]; omega)) rfl)
          · exact Free.ob_plain _ rfl rfl fun vals wq hC hd => (by exact Free.d_move rfl (by kernel_rfl) rfl)
          · exact Free.ob_plain _ rfl rfl fun vals wq hC hd => (by exact Free.d_move rfl (by kernel_rfl) rfl)
          · exact Free.ob_plain _ rfl rfl fun vals wq hC hd => (by exact Free.d_bin rfl (Eq.trans (b := vals 4) (by kernel_rfl) (hd 4 (by kernel_rfl))) (Eq.trans (b := vals 5) (by kernel_rfl) (hd 5 (by kernel_rfl))) (by go_simp) (by first | (go_simp; done) | (go_simp; omega) | (go_simp; rw [IntWalk.i64_in _ (by omega)]; done) | (go_simp; rw [IntWalk.i64_in _ (by omega)]; omega)) rfl)
          · exact Free.ob_plain _ rfl rfl fun vals wq hC hd => (by exact Free.d_move rfl (by kernel_rfl) rfl)
          · exact Free.ob_plain _ rfl rfl fun vals wq hC hd => (by exact Free.d_move rfl (by kernel_rfl) rfl)
          · exact Free.ob_plain _ rfl rfl fun vals wq hC hd => (by exact (by obtain ⟨A', hrun, hss⟩ := run_cutS_hi (HSS.out wq hC) m hmn; exact Free.d_slice rfl (Eq.trans (b := vals 7) (by kernel_rfl) (hd 7 (by kernel_rfl))) rfl (show _ = some (Value.int .i64 (m : Int)) from congrArg some (Eq.trans (b := vals 8) (by kernel_rfl) (hd 8 (by kernel_rfl)))) rfl hrun ⟨A', c, rfl, hss.rd, hss.cap, hss.max⟩))
          · exact Free.ob_plain _ rfl rfl fun vals wq hC hd => (by obtain ⟨A9, k9, e9, rd9, le9, mx9⟩ := hd 9 (by kernel_rfl); exact Free.d_call Tryd.func32 (by kernel_rfl) (by kernel_rfl) rfl rfl (arg4' (Eq.trans (b := vals 0) (by kernel_rfl) (hd 0 (by kernel_rfl))) (Eq.trans (b := vals 3) (by kernel_rfl) (hd 3 (by kernel_rfl))) (Eq.trans (b := vals 6) (by kernel_rfl) (hd 6 (by kernel_rfl))) (Eq.trans (b := vals 9) (by kernel_rfl) e9)) ((IHW.out A9 k9 wq ⟨rd9, HPT.out, le9, mx9⟩).mono fun e w2 h => (by obtain ⟨A1, n1, c1, he, ho, hb⟩ := h; exact ⟨_, he, ⟨A1, n1, c1, rfl, ho.base hC.size⟩, hb⟩)))
          · exact Free.ob_plain _ rfl rfl fun vals wq hC hd => (by exact Free.d_move rfl (by kernel_rfl) rfl)
          · exact Free.ob_plain _ rfl rfl fun vals wq hC hd => (by exact Free.d_move rfl (by kernel_rfl) rfl)
          · exact Free.ob_plain _ rfl rfl fun vals wq hC hd => (by exact Free.d_indexAddr rfl (Eq.trans (b := vals 11) (by kernel_rfl) (hd 11 (by kernel_rfl))) (Eq.trans (b := vals 12) (by kernel_rfl) (hd 12 (by kernel_rfl))) (run_idx 22 Tryd.underlying22 (by kernel_rfl) b off (m + 1) c m _ (by omega) (by omega)) rfl)
          · exact Free.ob_plain _ rfl rfl fun vals wq hC hd => (by exact Free.d_load rfl (Eq.trans (b := vals 13) (by kernel_rfl) (hd 13 (by kernel_rfl))) (by have hcc := HX.out wq hC; go_simp) rfl)
          · exact Free.ob_plain _ rfl rfl fun vals wq hC hd => (by exact Free.d_bin rfl (show _ = sv [1] from rfl) (Eq.trans (b := vals 14) (by kernel_rfl) (hd 14 (by kernel_rfl))) (by go_simp) (run_cat _ _ _ (by have a1 := HXL.out; have a2 := HL1.out; simp; omega)) rfl)
          · exact Free.ob_plain _ rfl rfl fun vals wq hC hd => (by exact Free.d_move rfl (by kernel_rfl) rfl)
          · exact Free.ob_plain _ rfl rfl fun vals wq hC hd => (by exact Free.d_move rfl (by kernel_rfl) rfl)
          · exact Free.ob_plain _ rfl rfl fun vals wq hC hd => (by exact Free.d_move rfl (by kernel_rfl) rfl)
          · exact Free.ob_plain _ rfl rfl fun vals wq hC hd => (by exact Free.d_bin rfl (Eq.trans (b := vals 17) (by kernel_rfl) (hd 17 (by kernel_rfl))) (Eq.trans (b := vals 18) (by kernel_rfl) (hd 18 (by kernel_rfl))) (by go_simp) (by first | (go_simp; done) | (go_simp; omega) | (go_simp; rw [IntWalk.i64_in _ (by omega)]; done) | (go_simp; rw [IntWalk.i64_in _ (by omega)]; omega)) rfl)
          · exact Free.ob_plain _ rfl rfl fun vals wq hC hd => (by exact Free.d_move rfl (by kernel_rfl) rfl)
          · exact Free.ob_plain _ rfl rfl fun vals wq hC hd => (by exact Free.d_move rfl (by kernel_rfl) rfl)
          · exact Free.ob_plain _ rfl rfl fun vals wq hC hd => (by exact Free.d_bin rfl (Eq.trans (b := vals 20) (by kernel_rfl) (hd 20 (by kernel_rfl))) (Eq.trans (b := vals 21) (by kernel_rfl) (hd 21 (by kernel_rfl))) (by go_simp) (by first | (go_simp; done) | (go_simp; omega) | (go_simp; rw [IntWalk.i64_in _ (by omega)]; done) | (go_simp; rw [IntWalk.i64_in _ (by omega)]; omega)) rfl)
          · exact Free.ob_plain _ rfl rfl fun vals wq hC hd => (by exact Free.d_move rfl (by kernel_rfl) rfl)
          · exact Free.ob_plain _ rfl rfl fun vals wq hC hd => (by exact Free.d_move rfl (by kernel_rfl) rfl)
          · exact Free.ob_plain _ rfl rfl fun vals wq hC hd => (by exact (by obtain ⟨A', hrun, hss⟩ := run_cutS_hi (HSS.out wq hC) m hmn; exact Free.d_slice rfl (Eq.trans (b := vals 23) (by kernel_rfl) (hd 23 (by kernel_rfl))) rfl (show _ = some (Value.int .i64 (m : Int)) from congrArg some (Eq.trans (b := vals 24) (by kernel_rfl) (hd 24 (by kernel_rfl)))) rfl hrun ⟨A', c, rfl, hss.rd, hss.cap, hss.max⟩))
          · exact Free.ob_plain _ rfl rfl fun vals wq hC hd => (by obtain ⟨A25, k25, e25, rd25, le25, mx25⟩ := hd 25 (by kernel_rfl); exact Free.d_call Tryd.func23 (by kernel_rfl) (by kernel_rfl) rfl rfl (arg4' (Eq.trans (b := vals 16) (by kernel_rfl) (hd 16 (by kernel_rfl))) (Eq.trans (b := vals 19) (by kernel_rfl) (hd 19 (by kernel_rfl))) (Eq.trans (b := vals 22) (by kernel_rfl) (hd 22 (by kernel_rfl))) (Eq.trans (b := vals 25) (by kernel_rfl) e25)) ((HCL.out A25 k25 wq ⟨rd25, HPT.out, le25, mx25⟩).mono fun e w2 h => ⟨_, h.1, rfl, h.2⟩))
          · exact Free.ob_plain _ rfl rfl fun vals wq hC hd => (by exact Free.d_bin rfl (Eq.trans (b := vals 15) (by kernel_rfl) (hd 15 (by kernel_rfl))) (Eq.trans (b := vals 26) (by kernel_rfl) (hd 26 (by kernel_rfl))) (by go_simp) (run_cat _ _ _ (by have a1 := HXL.out; have a2 := HL1.out; simp; omega)) rfl)
          · exact Free.ob_plain _ rfl rfl fun vals wq hC hd => (by exact Free.d_build (w' := wq.alloc (.cells ([sv ([1] ++ x ++ Y)] : List Value).toArray 9)) rfl (Free.parts1 (Eq.trans (b := vals 27) (by kernel_rfl) (hd 27 (by kernel_rfl)))) (by go_simp) ((Below.refl _ _).alloc (Nat.le_refl _) _) ⟨_, _, rfl, (rd_new wq [_] _ _).more (by unfold World.alloc; simp), Nat.le_refl _, by rw [maxLen_eq]; omega⟩)
        · intro vals wq hC hd
          have e0 : vals 0 = (sv d) := hd 0 (by decide)
          have e1 : vals 1 = (.int .i64 (i : Int)) := hd 1 (by decide)
          have e2 : vals 2 = (.int .i64 (k0 : Int)) := hd 2 (by decide)
          have e3 : vals 3 = (.int .i64 (j : Int)) := hd 3 (by decide)
          have e4 : vals 4 = (.int .i64 (n : Int)) := hd 4 (by decide)
          have e5 : vals 5 = (.int .i64 (k0 : Int)) := hd 5 (by decide)
          have e6 : vals 6 = (.int .i64 (n2 : Int)) := hd 6 (by decide)
          have e7 : vals 7 = (.slice (some ⟨b, off, none⟩) (m + 1) c) := hd 7 (by decide)
          have e8 : vals 8 = (.int .i64 (m : Int)) := hd 8 (by decide)
          obtain ⟨A9, k9, e9, rd9, le9, mx9⟩ := hd 9 (by decide)
          obtain ⟨A10, n10, k10, e10, ow10⟩ := hd 10 (by decide)
          have e11 : vals 11 = (.slice (some ⟨b, off, none⟩) (m + 1) c) := hd 11 (by decide)
          have e12 : vals 12 = (.int .i64 (m : Int)) := hd 12 (by decide)
          have e13 : vals 13 = (.pointer (some ⟨b, off + m, none⟩)) := hd 13 (by decide)
          have e14 : vals 14 = (sv x) := hd 14 (by decide)
          have e15 : vals 15 = (sv ([1] ++ x)) := hd 15 (by decide)
          have e16 : vals 16 = (sv d) := hd 16 (by decide)
          have e17 : vals 17 = (.int .i64 (i : Int)) := hd 17 (by decide)
          have e18 : vals 18 = (.int .i64 (k0 : Int)) := hd 18 (by decide)
          have e19 : vals 19 = (.int .i64 (j : Int)) := hd 19 (by decide)
          have e20 : vals 20 = (.int .i64 (n : Int)) := hd 20 (by decide)
          have e21 : vals 21 = (.int .i64 (k0 : Int)) := hd 21 (by decide)
          have e22 : vals 22 = (.int .i64 (n2 : Int)) := hd 22 (by decide)
          have e23 : vals 23 = (.slice (some ⟨b, off, none⟩) (m + 1) c) := hd 23 (by decide)
          have e24 : vals 24 = (.int .i64 (m : Int)) := hd 24 (by decide)
          obtain ⟨A25, k25, e25, rd25, le25, mx25⟩ := hd 25 (by decide)
          have e26 : vals 26 = (sv Y) := hd 26 (by decide)
          have e27 : vals 27 = (sv ([1] ++ x ++ Y)) := hd 27 (by decide)
          obtain ⟨A28, k28, e28, rd28, le28, mx28⟩ := hd 28 (by decide)
          simp only [Free.frameOf, List.range, List.range.loop, List.foldl, Free.dstOf, List.getElem?_toArray, List.getElem?_cons_zero, List.getElem?_cons_succ, Option.bind_some, Act.put, List.setIfInBounds_toArray, List.set_cons_zero, List.set_cons_succ, e0, e1, e2, e3, e4, e5, e6, e7, e8, e9, e10, e11, e12, e13, e14, e15, e16, e17, e18, e19, e20, e21, e22, e23, e24, e25, e26, e27, e28]
          clear hd e0 e1 e2 e3 e4 e5 e6 e7 e8 e9 e10 e11 e12 e13 e14 e15 e16 e17 e18 e19 e20 e21 e22 e23 e24 e25 e26 e27 e28
          have hs1 : Ss wq A28 1 k28 [[1] ++ x ++ Y] := ⟨rd28, rfl, le28, mx28⟩
          have HB := Lib.hid hC
          have hnp : n10 ≤ 100 := by rw [← ow10.len]; exact HVL.out
          clear hC rd28
          refine wl_appSS rfl (.tmp 53) (.tmp 71) rfl rfl ow10 rfl hs1 (by omega) HB.out.size ?_
          intro A' n' c' w' ho' hb'
          simp only [Act.put, List.setIfInBounds_toArray, List.set_cons_succ, List.set_cons_zero]
          go_wp2_with fail
          go_ret
          exact ⟨A', n', c', rfl, by rw [HE.out]; exact ho', HB.out.trans hb'⟩
theorem clb_32 {d : List UInt8} (hd : d.length = 32) (S : List Bool) (p : List (List UInt8)) : (Tree.clb tnd tnil d S p).length = 32 := by
  cases S with
  | nil => exact hd
  | cons s S => cases s <;> exact tnd_len _ _
/-- Two climbs from unlike digests to one root: some step seals unlike bytes with one sum. -/
theorem wys_clash : ∀ (S : List Bool) (a b : List UInt8) (p q : List (List UInt8)), a.length = 32 → b.length = 32 → (∀ s ∈ p, s.length = 32) → (∀ s ∈ q, s.length = 32) → p.length = S.length → q.length = S.length → a ≠ b →
    Tree.clb tnd tnil a S p = Tree.clb tnd tnil b S q → ∃ (k : Nat) (u v : List UInt8), (wys a S p)[k]? = some u ∧ (wys b S q)[k]? = some v ∧ clashB u v = true
  | [], a, b, p, q, ha, hb, hp, hq, h1, h2, hne, he => absurd he hne
  | s :: S, a, b, p, q, ha, hb, hp, hq, h1, h2, hne, he => by
    rcases List.eq_nil_or_concat p with rfl | ⟨p', x, rfl⟩
    · simp at h1
    rcases List.eq_nil_or_concat q with rfl | ⟨q', y, rfl⟩
    · simp at h2
    rw [List.concat_eq_append] at *
    rw [List.concat_eq_append] at *
    have l1 : p'.length = S.length := by simpa using h1
    have l2 : q'.length = S.length := by simpa using h2
    have hp' : ∀ s ∈ p', s.length = 32 := fun s hs => hp s (List.mem_append.2 (.inl hs))
    have hq' : ∀ s ∈ q', s.length = 32 := fun s hs => hq s (List.mem_append.2 (.inl hs))
    have hx : x.length = 32 := hp x (by simp)
    have hy : y.length = 32 := hq y (by simp)
    have ih := wys_clash S a b p' q' ha hb hp' hq' l1 l2 hne
    rw [Tree.clb_snoc, Tree.clb_snoc] at he
    rw [wys_snoc, wys_snoc]
    have hA := clb_32 ha S p'
    have hB := clb_32 hb S q'
    obtain ⟨X, hX⟩ : ∃ X, Tree.clb tnd tnil a S p' = X := ⟨_, rfl⟩
    obtain ⟨Y, hY⟩ : ∃ Y, Tree.clb tnd tnil b S q' = Y := ⟨_, rfl⟩
    rw [hX] at he hA ih ⊢
    rw [hY] at he hB ih ⊢
    have up : ∀ u v, (∃ (k : Nat) (u v : List UInt8), (wys a S p')[k]? = some u ∧ (wys b S q')[k]? = some v ∧ clashB u v = true) → ∃ (k : Nat) (u' v' : List UInt8), (wys a S p' ++ [u])[k]? = some u' ∧ (wys b S q' ++ [v])[k]? = some v' ∧ clashB u' v' = true := fun u v ⟨k, u', v', g1, g2, g3⟩ =>
      ⟨k, u', v', by rw [List.getElem?_append_left (List.getElem?_eq_some_iff.1 g1).1]; exact g1, by rw [List.getElem?_append_left (List.getElem?_eq_some_iff.1 g2).1]; exact g2, g3⟩
    have here : ∀ u v : List UInt8, u ≠ v → Sha.sum u = Sha.sum v → ∃ (k : Nat) (u' v' : List UInt8), (wys a S p' ++ [u])[k]? = some u' ∧ (wys b S q' ++ [v])[k]? = some v' ∧ clashB u' v' = true := fun u v g1 g2 =>
      ⟨S.length, u, v, by rw [List.getElem?_append_right (by rw [wys_len]; exact Nat.le_refl _), wys_len, Nat.sub_self]; rfl, by rw [List.getElem?_append_right (by rw [wys_len]; exact Nat.le_refl _), wys_len, Nat.sub_self]; rfl, by simp [clashB, g1, g2]⟩
    cases s with
    | false =>
      by_cases hh : X ++ x = Y ++ y
      · exact up _ _ (ih (List.append_inj hh (by omega)).1)
      · exact here _ _ (fun g => hh (by simpa using g)) he
    | true =>
      by_cases hh : x ++ X = y ++ Y
      · exact up _ _ (ih (List.append_inj hh (by omega)).2)
      · exact here _ _ (fun g => hh (by simpa using g)) he
end Go.Proofs.YtoiilhbjlfdfpaaDoor
