/- The reference's Path. No statement of the seat is proved here. -/
import Derived.Test.YtoiilhbjlfdfpaaDoorTree4
import Derived.Test.YtoiilhbjlfdfpaaDoorTreePath
namespace Go.Proofs.YtoiilhbjlfdfpaaDoor
set_option linter.unusedVariables false
open Go.RowKit

/-- A slice of texts that is the call's own, as what a drawn operation leaves. -/
def Free.kO (B : Nat) (l : List (List UInt8)) : Free.SV := ⟨fun v w => ∃ A n c, v = .slice A n c ∧ OwnS w B A n c l, fun v w w' ⟨A, n, c, h1, h2⟩ g => ⟨A, n, c, h1, h2.keep g⟩⟩
section
variable {ops : Array Oper} {rest : List Oper} {o : Oper} {a : Act} {Q : Exit → Act → World → Prop} {w : World}
/-- append(v, s...): both of texts. -/
theorem wl_appSS (hgd : o.guard = none) (s x : Operand) (ho : o.op = .call { callee := .builtin .append, args := #[s, x], argTypes := #[22, 22] })
    {B : Nat} {A : Option Addr} {n c : Nat} {l : List (List UInt8)} (hs : a.eval s = .slice A n c) (h1 : OwnS w B A n c l)
    {A2 : Option Addr} {m c2 : Nat} {l2 : List (List UInt8)} (hx : a.eval x = .slice A2 m c2) (h2 : Ss w A2 m c2 l2) (hsz : n + m ≤ 1000000000000) (hB : B ≤ w.heap.size)
    (h : ∀ A' n' c' w', OwnS w' B A' n' c' (l ++ l2) → Below B w w' → wpList Tryd.prog ops Q rest (a.put o.dst (.slice A' n' c')) w') : wpList Tryd.prog ops Q (o :: rest) a w :=
  wl_app hgd s x 22 ho B 9 1 16 strsT _ n _ hs h1.own w.heap.size A2 m c2 (l2.map sv) hx h2.rd (by simpa using h2.len) (one_s _) (by rw [maxLen_eq]; omega) (by omega) hB fun A' c' w' g1 g2 _ g4 g5 g6 =>
    h A' (n + m) c' w' ⟨by rw [← List.map_append] at g1; exact g1, by rw [List.length_append, h1.len, h2.len], g5, g6⟩ g4
end
abbrev tpath (l : List (List UInt8)) (i : Nat) : List (List UInt8) := Tree.path tnd tnil l i
theorem tpath_all {l : List (List UInt8)} (h : ∀ s ∈ l, s.length = 32) (i : Nat) : ∀ s ∈ tpath l i, s.length = 32 := Tree.path_all tnd tnil (fun s => s.length = 32) (fun l h => troot_len h) l.length l i (Nat.le_refl _) h
theorem tpath_len {l : List (List UInt8)} {i : Nat} (h : i < l.length) : (tpath l i).length ≤ 2 * l.length := by
  rw [Tree.path_len tnd tnil l.length l i (Nat.le_refl _) h]
  exact Tree.sides_len _ _ _ (Nat.le_refl _) h
set_option maxRecDepth 100000 in
set_option maxHeartbeats 16000000 in
theorem rpath_any : ∀ (q : Nat) (A : Option Addr) (n c : Nat) (l : List (List UInt8)) (i : Nat) (w : World), n ≤ q → Ss w A n c l → (∀ s ∈ l, s.length = 32) → n ≤ 1000 → i < n → Calls Tryd.prog 20 #[.slice A n c, .int .i64 (i : Int)] w (OwnSPost w.heap.size (tpath l i) w)
  | q, A, n, c, l, i, w, hq, h, h32, hn, hi => by
    have hm := h.max
    have hcap := h.cap
    rw [maxLen_eq] at hm
    have HLN := Lib.hid h.len
    have H32 := Lib.hid h32
    clear h32
    by_cases h1 : n = 1
    · subst h1
      have HE := Lib.hid (show tpath l i = [] from Tree.path_small _ _ (by rw [HLN.out]; omega))
      clear h
      go_enter Tryd.func20, Tryd.ntmps20
      go_wp2
      go_ret
      exact ⟨none, 0, 0, rfl, by rw [HE.out]; exact OwnS.nil _ _, Below.refl _ _⟩
    · have b1 : ((n : Int) == 1) = false := beq_eq_false_iff_ne.2 (by omega)
      have h2 : 2 ≤ n := by omega
      match q, hq with
      | 0, hq => omega
      | q + 1, hq =>
      obtain ⟨k0, hk⟩ : ∃ k0, Tree.sp n = k0 := ⟨_, rfl⟩
      have kp := Tree.sp_pos h2
      have kl := Tree.sp_lt h2
      rw [hk] at kp kl
      have hk0 : k0 ≤ n := by omega
      have HSP := Lib.hid (show Tree.spz (n : Int) = k0 by rw [Tree.spz_in h2 (by omega), hk])
      have HSS := Lib.hid (show ∀ W, Below w.heap.size w W → Ss W A n c l from fun W hW => h.keep hW)
      have HLT := Lib.hid (show (l.take k0).length = k0 ∧ (l.drop k0).length = n - k0 by rw [List.length_take, List.length_drop, HLN.out]; omega)
      have HTK := Lib.hid (all_take H32.out k0)
      have HDR := Lib.hid (all_drop H32.out k0)
      have IH := Lib.hid (show ∀ (A' : Option Addr) (n' c' : Nat) (l' : List (List UInt8)) (i' : Nat) (W : World), (∀ s ∈ l', s.length = 32) → Ss W A' n' c' l' → (n' ≤ q ∧ n' ≤ 1000) → i' < n' → Calls Tryd.prog 20 #[.slice A' n' c', .int .i64 (i' : Int)] W (OwnSPost W.heap.size (tpath l' i') W) from fun A' n' c' l' i' W g1 g2 g3 g4 => rpath_any q A' n' c' l' i' W g3.1 g2 g1 g3.2 g4)
      unfold OwnSPost at IH
      have hkq : (k0 ≤ q ∧ k0 ≤ 1000) ∧ (n - k0 ≤ q ∧ n - k0 ≤ 1000) := by omega
      have HKQ := Lib.hid hkq
      have HSPN := Lib.hid hk
      clear hk h hkq
      by_cases hlt : i < k0
      · have HE := Lib.hid (show tpath l i = tpath (l.take k0) i ++ [troot (l.drop k0)] by
          have := Tree.path_left tnd tnil (l := l) (i := i) (by rw [HLN.out]; exact h2) (by rw [HLN.out, HSPN.out]; exact hlt)
          rw [HLN.out, HSPN.out] at this
          exact this)
        have HPL := Lib.hid (show (tpath (l.take k0) i).length ≤ 2000 by have := tpath_len (l := l.take k0) (i := i) (by rw [HLT.out.1]; exact hlt); rw [HLT.out.1] at this; omega)
        have hci : (i : Int) < (k0 : Int) := by omega
        go_enter Tryd.func20, Tryd.ntmps20
        go_wp2_with fail
        refine (rsplit_any (n : Int) w (by omega) (by omega)).mono ?_
        rintro e w1 ⟨rfl, rfl⟩
        rw [HSP.out]
        go_wp2_with fail
        refine Free.wp_free_l 10 (fun W => Below w.heap.size w W) [Free.kc (.slice A n c), Free.kc (.int .i64 (k0 : Int)), Free.kr (k0) ((l.take k0).map sv), Free.kc (.int .i64 (i : Int)), Free.kO (w.heap.size) (tpath (l.take k0) i), Free.kc (.slice A n c), Free.kc (.int .i64 (k0 : Int)), Free.kr (n - k0) ((l.drop k0).map sv), Free.kc (sv (troot (l.drop k0))), Free.kr (1) ([sv (troot (l.drop k0))])] (by kernel_rfl) (by kernel_rfl) (by decide) (Below.refl _ _).drew (fun w w' h g => bt h g) ?_ ?_
        · refine Free.forall_succ (Free.forall_succ (Free.forall_succ (Free.forall_succ (Free.forall_succ (Free.forall_succ (Free.forall_succ (Free.forall_succ (Free.forall_succ (Free.forall_succ (Free.forall_zero) ?_) ?_) ?_) ?_) ?_) ?_) ?_) ?_) ?_) ?_
          · exact Free.ob_plain _ rfl rfl fun vals wq hC hd => (by exact Free.d_move rfl (by kernel_rfl) rfl)
          · exact Free.ob_plain _ rfl rfl fun vals wq hC hd => (by exact Free.d_move rfl (by kernel_rfl) rfl)
          · exact Free.ob_plain _ rfl rfl fun vals wq hC hd => (by exact (by obtain ⟨A', hrun, hss⟩ := run_cutS_hi (HSS.out wq hC) k0 hk0; exact Free.d_slice rfl (Eq.trans (b := vals 0) (by kernel_rfl) (hd 0 (by kernel_rfl))) rfl (show _ = some (Value.int .i64 (k0 : Int)) from congrArg some (Eq.trans (b := vals 1) (by kernel_rfl) (hd 1 (by kernel_rfl)))) rfl hrun ⟨A', c, rfl, hss.rd, hss.cap, hss.max⟩))
          · exact Free.ob_plain _ rfl rfl fun vals wq hC hd => (by exact Free.d_move rfl (by kernel_rfl) rfl)
          · exact Free.ob_plain _ rfl rfl fun vals wq hC hd => (by obtain ⟨A2, k2, e2, rd2, le2, mx2⟩ := hd 2 (by kernel_rfl); exact Free.d_call Tryd.func20 (by kernel_rfl) (by kernel_rfl) rfl rfl (Free.arg2 (Eq.trans (b := vals 2) (by kernel_rfl) e2) (Eq.trans (b := vals 3) (by kernel_rfl) (hd 3 (by kernel_rfl)))) ((IH.out A2 _ k2 (l.take k0) i wq HTK.out ⟨rd2, HLT.out.1, le2, mx2⟩ HKQ.out.1 (by omega)).mono fun e w2 h => (by obtain ⟨A1, n1, c1, he, ho, hb⟩ := h; exact ⟨_, he, ⟨A1, n1, c1, rfl, ho.base hC.size⟩, hb⟩)))
          · exact Free.ob_plain _ rfl rfl fun vals wq hC hd => (by exact Free.d_move rfl (by kernel_rfl) rfl)
          · exact Free.ob_plain _ rfl rfl fun vals wq hC hd => (by exact Free.d_move rfl (by kernel_rfl) rfl)
          · exact Free.ob_plain _ rfl rfl fun vals wq hC hd => (by exact (by obtain ⟨A', hrun, hss⟩ := run_cutS_lo (HSS.out wq hC) k0 hk0; exact Free.d_slice rfl (Eq.trans (b := vals 5) (by kernel_rfl) (hd 5 (by kernel_rfl))) (show _ = some (Value.int .i64 (k0 : Int)) from congrArg some (Eq.trans (b := vals 6) (by kernel_rfl) (hd 6 (by kernel_rfl)))) rfl rfl hrun ⟨A', c - k0, rfl, hss.rd, hss.cap, hss.max⟩))
          · exact Free.ob_plain _ rfl rfl fun vals wq hC hd => (by obtain ⟨A7, k7, e7, rd7, le7, mx7⟩ := hd 7 (by kernel_rfl); exact Free.d_call Tryd.func29 (by kernel_rfl) (by kernel_rfl) rfl rfl (Free.arg1 (Eq.trans (b := vals 7) (by kernel_rfl) e7)) ((rroot_any _ A7 _ k7 (l.drop k0) wq (Nat.le_refl _) ⟨rd7, HLT.out.2, le7, mx7⟩ HDR.out (by omega)).mono fun e w2 h => ⟨_, h.1, rfl, h.2⟩))
          · exact Free.ob_plain _ rfl rfl fun vals wq hC hd => (by exact Free.d_build (w' := wq.alloc (.cells ([sv (troot (l.drop k0))] : List Value).toArray 9)) rfl (Free.parts1 (Eq.trans (b := vals 8) (by kernel_rfl) (hd 8 (by kernel_rfl)))) (by go_simp) ((Below.refl _ _).alloc (Nat.le_refl _) _) ⟨_, _, rfl, (rd_new wq [_] _ _).more (by unfold World.alloc; simp), Nat.le_refl _, by rw [maxLen_eq]; omega⟩)
        · intro vals wq hC hd
          have e0 : vals 0 = (.slice A n c) := hd 0 (by decide)
          have e1 : vals 1 = (.int .i64 (k0 : Int)) := hd 1 (by decide)
          obtain ⟨A2, k2, e2, rd2, le2, mx2⟩ := hd 2 (by decide)
          have e3 : vals 3 = (.int .i64 (i : Int)) := hd 3 (by decide)
          obtain ⟨A4, n4, k4, e4, ow4⟩ := hd 4 (by decide)
          have e5 : vals 5 = (.slice A n c) := hd 5 (by decide)
          have e6 : vals 6 = (.int .i64 (k0 : Int)) := hd 6 (by decide)
          obtain ⟨A7, k7, e7, rd7, le7, mx7⟩ := hd 7 (by decide)
          have e8 : vals 8 = (sv (troot (l.drop k0))) := hd 8 (by decide)
          obtain ⟨A9, k9, e9, rd9, le9, mx9⟩ := hd 9 (by decide)
          simp only [Free.frameOf, List.range, List.range.loop, List.foldl, Free.dstOf, List.getElem?_toArray, List.getElem?_cons_zero, List.getElem?_cons_succ, Option.bind_some, Act.put, List.setIfInBounds_toArray, List.set_cons_zero, List.set_cons_succ, e0, e1, e2, e3, e4, e5, e6, e7, e8, e9]
          clear hd e0 e1 e2 e3 e4 e5 e6 e7 e8 e9
          have hs1 : Ss wq A9 1 k9 [troot (l.drop k0)] := ⟨rd9, rfl, le9, mx9⟩
          have HB := Lib.hid hC
          have hnp : n4 ≤ 2000 := by rw [← ow4.len]; exact HPL.out
          clear hC rd9
          refine wl_appSS rfl (.tmp 19) (.tmp 24) rfl rfl ow4 rfl hs1 (by omega) HB.out.size ?_
          intro A' n' c' w' ho' hb'
          simp only [Act.put, List.setIfInBounds_toArray, List.set_cons_succ, List.set_cons_zero]
          go_wp2_with fail
          go_ret
          exact ⟨A', n', c', rfl, by rw [HE.out]; exact ho', HB.out.trans hb'⟩
      · obtain ⟨j, hj⟩ : ∃ j, j + k0 = i := ⟨i - k0, by omega⟩
        have HE := Lib.hid (show tpath l i = tpath (l.drop k0) j ++ [troot (l.take k0)] by
          have := Tree.path_right tnd tnil (l := l) (i := i) (by rw [HLN.out]; exact h2) (by rw [HLN.out, HSPN.out]; exact hlt)
          rw [HLN.out, HSPN.out, show i - k0 = j by omega] at this
          exact this)
        have hjn : j < n - k0 := by omega
        have HPL := Lib.hid (show (tpath (l.drop k0) j).length ≤ 2000 by have := tpath_len (l := l.drop k0) (i := j) (by rw [HLT.out.2]; exact hjn); rw [HLT.out.2] at this; omega)
        have hci : ¬ (i : Int) < (k0 : Int) := by omega
        have hci2 : (k0 : Int) ≤ (i : Int) := by omega
        go_enter Tryd.func20, Tryd.ntmps20
        go_wp2_with fail
        refine (rsplit_any (n : Int) w (by omega) (by omega)).mono ?_
        rintro e w1 ⟨rfl, rfl⟩
        rw [HSP.out]
        go_wp2_with fail
        refine Free.wp_free_l 12 (fun W => Below w.heap.size w W) [Free.kc (.slice A n c), Free.kc (.int .i64 (k0 : Int)), Free.kr (n - k0) ((l.drop k0).map sv), Free.kc (.int .i64 (i : Int)), Free.kc (.int .i64 (k0 : Int)), Free.kc (.int .i64 (j : Int)), Free.kO (w.heap.size) (tpath (l.drop k0) j), Free.kc (.slice A n c), Free.kc (.int .i64 (k0 : Int)), Free.kr (k0) ((l.take k0).map sv), Free.kc (sv (troot (l.take k0))), Free.kr (1) ([sv (troot (l.take k0))])] (by kernel_rfl) (by kernel_rfl) (by decide) (Below.refl _ _).drew (fun w w' h g => bt h g) ?_ ?_
        · refine Free.forall_succ (Free.forall_succ (Free.forall_succ (Free.forall_succ (Free.forall_succ (Free.forall_succ (Free.forall_succ (Free.forall_succ (Free.forall_succ (Free.forall_succ (Free.forall_succ (Free.forall_succ (Free.forall_zero) ?_) ?_) ?_) ?_) ?_) ?_) ?_) ?_) ?_) ?_) ?_) ?_
          · exact Free.ob_plain _ rfl rfl fun vals wq hC hd => (by exact Free.d_move rfl (by kernel_rfl) rfl)
          · exact Free.ob_plain _ rfl rfl fun vals wq hC hd => (by exact Free.d_move rfl (by kernel_rfl) rfl)
          · exact Free.ob_plain _ rfl rfl fun vals wq hC hd => (by exact (by obtain ⟨A', hrun, hss⟩ := run_cutS_lo (HSS.out wq hC) k0 hk0; exact Free.d_slice rfl (Eq.trans (b := vals 0) (by kernel_rfl) (hd 0 (by kernel_rfl))) (show _ = some (Value.int .i64 (k0 : Int)) from congrArg some (Eq.trans (b := vals 1) (by kernel_rfl) (hd 1 (by kernel_rfl)))) rfl rfl hrun ⟨A', c - k0, rfl, hss.rd, hss.cap, hss.max⟩))
          · exact Free.ob_plain _ rfl rfl fun vals wq hC hd => (by exact Free.d_move rfl (by kernel_rfl) rfl)
          · exact Free.ob_plain _ rfl rfl fun vals wq hC hd => (by exact Free.d_move rfl (by kernel_rfl) rfl)
          · exact Free.ob_plain _ rfl rfl fun vals wq hC hd => (by exact Free.d_bin rfl (Eq.trans (b := vals 3) (by kernel_rfl) (hd 3 (by kernel_rfl))) (Eq.trans (b := vals 4) (by kernel_rfl) (hd 4 (by kernel_rfl))) (by go_simp) (by first | (go_simp; done) | (go_simp; omega) | (go_simp; rw [IntWalk.i64_in _ (by omega)]; done) | (go_simp; rw [IntWalk.i64_in _ (by omega)]; omega)) rfl)
          · exact Free.ob_plain _ rfl rfl fun vals wq hC hd => (by obtain ⟨A2, k2, e2, rd2, le2, mx2⟩ := hd 2 (by kernel_rfl); exact Free.d_call Tryd.func20 (by kernel_rfl) (by kernel_rfl) rfl rfl (Free.arg2 (Eq.trans (b := vals 2) (by kernel_rfl) e2) (Eq.trans (b := vals 5) (by kernel_rfl) (hd 5 (by kernel_rfl)))) ((IH.out A2 _ k2 (l.drop k0) j wq HDR.out ⟨rd2, HLT.out.2, le2, mx2⟩ HKQ.out.2 (by omega)).mono fun e w2 h => (by obtain ⟨A1, n1, c1, he, ho, hb⟩ := h; exact ⟨_, he, ⟨A1, n1, c1, rfl, ho.base hC.size⟩, hb⟩)))
          · exact Free.ob_plain _ rfl rfl fun vals wq hC hd => (by exact Free.d_move rfl (by kernel_rfl) rfl)
          · exact Free.ob_plain _ rfl rfl fun vals wq hC hd => (by exact Free.d_move rfl (by kernel_rfl) rfl)
          · exact Free.ob_plain _ rfl rfl fun vals wq hC hd => (by exact (by obtain ⟨A', hrun, hss⟩ := run_cutS_hi (HSS.out wq hC) k0 hk0; exact Free.d_slice rfl (Eq.trans (b := vals 7) (by kernel_rfl) (hd 7 (by kernel_rfl))) rfl (show _ = some (Value.int .i64 (k0 : Int)) from congrArg some (Eq.trans (b := vals 8) (by kernel_rfl) (hd 8 (by kernel_rfl)))) rfl hrun ⟨A', c, rfl, hss.rd, hss.cap, hss.max⟩))
          · exact Free.ob_plain _ rfl rfl fun vals wq hC hd => (by obtain ⟨A9, k9, e9, rd9, le9, mx9⟩ := hd 9 (by kernel_rfl); exact Free.d_call Tryd.func29 (by kernel_rfl) (by kernel_rfl) rfl rfl (Free.arg1 (Eq.trans (b := vals 9) (by kernel_rfl) e9)) ((rroot_any _ A9 _ k9 (l.take k0) wq (Nat.le_refl _) ⟨rd9, HLT.out.1, le9, mx9⟩ HTK.out (by omega)).mono fun e w2 h => ⟨_, h.1, rfl, h.2⟩))
          · exact Free.ob_plain _ rfl rfl fun vals wq hC hd => (by exact Free.d_build (w' := wq.alloc (.cells ([sv (troot (l.take k0))] : List Value).toArray 9)) rfl (Free.parts1 (Eq.trans (b := vals 10) (by kernel_rfl) (hd 10 (by kernel_rfl)))) (by go_simp) ((Below.refl _ _).alloc (Nat.le_refl _) _) ⟨_, _, rfl, (rd_new wq [_] _ _).more (by unfold World.alloc; simp), Nat.le_refl _, by rw [maxLen_eq]; omega⟩)
        · intro vals wq hC hd
          have e0 : vals 0 = (.slice A n c) := hd 0 (by decide)
          have e1 : vals 1 = (.int .i64 (k0 : Int)) := hd 1 (by decide)
          obtain ⟨A2, k2, e2, rd2, le2, mx2⟩ := hd 2 (by decide)
          have e3 : vals 3 = (.int .i64 (i : Int)) := hd 3 (by decide)
          have e4 : vals 4 = (.int .i64 (k0 : Int)) := hd 4 (by decide)
          have e5 : vals 5 = (.int .i64 (j : Int)) := hd 5 (by decide)
          obtain ⟨A6, n6, k6, e6, ow6⟩ := hd 6 (by decide)
          have e7 : vals 7 = (.slice A n c) := hd 7 (by decide)
          have e8 : vals 8 = (.int .i64 (k0 : Int)) := hd 8 (by decide)
          obtain ⟨A9, k9, e9, rd9, le9, mx9⟩ := hd 9 (by decide)
          have e10 : vals 10 = (sv (troot (l.take k0))) := hd 10 (by decide)
          obtain ⟨A11, k11, e11, rd11, le11, mx11⟩ := hd 11 (by decide)
          simp only [Free.frameOf, List.range, List.range.loop, List.foldl, Free.dstOf, List.getElem?_toArray, List.getElem?_cons_zero, List.getElem?_cons_succ, Option.bind_some, Act.put, List.setIfInBounds_toArray, List.set_cons_zero, List.set_cons_succ, e0, e1, e2, e3, e4, e5, e6, e7, e8, e9, e10, e11]
          clear hd e0 e1 e2 e3 e4 e5 e6 e7 e8 e9 e10 e11
          have hs1 : Ss wq A11 1 k11 [troot (l.take k0)] := ⟨rd11, rfl, le11, mx11⟩
          have HB := Lib.hid hC
          have hnp : n6 ≤ 2000 := by rw [← ow6.len]; exact HPL.out
          clear hC rd11
          refine wl_appSS rfl (.tmp 32) (.tmp 37) rfl rfl ow6 rfl hs1 (by omega) HB.out.size ?_
          intro A' n' c' w' ho' hb'
          simp only [Act.put, List.setIfInBounds_toArray, List.set_cons_succ, List.set_cons_zero]
          go_wp2_with fail
          go_ret
          exact ⟨A', n', c', rfl, by rw [HE.out]; exact ho', HB.out.trans hb'⟩
end Go.Proofs.YtoiilhbjlfdfpaaDoor
