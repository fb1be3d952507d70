/- MConsA: several texts of this claim in one file. No statement of the seat is proved here. -/
import Derived.Test.YtlcdpbpbfofmmaaDoorMTreeC
import Derived.Test.YtlcdpbpbfofmmaaDoorMTreeP
import Derived.WalkMore
namespace Go.Proofs.YtlcdpbpbfofmmaaDoor
set_option maxRecDepth 100000
set_option linter.unusedVariables false
open Go.RowKit

abbrev tpart (l : List (List UInt8)) (m : Nat) (whole : Bool) : List (List UInt8) := Cons.part tnd tnil l m whole
theorem OwnS.one (w : World) (x : List UInt8) {B : Nat} (hB : B ≤ w.heap.size) : OwnS (w.alloc (.cells #[sv x] 9)) B (some ⟨w.heap.size, 0, none⟩) 1 1 [x] :=
  ⟨own_new w [sv x] 9 1 1 rfl (by decide) hB, rfl, Nat.le_refl _, by decide⟩
set_option maxHeartbeats 4000000 in
theorem cnode_any (l r : List UInt8) (w : World) (hl : l.length = 32) (hr : r.length = 32) (ht : Tabs w) :
    Calls Tryd.prog 95 #[sv l, sv r] w (StrPost (tnd l r) w) := by
  have HC := Lib.hid (node_any l r w hl hr ht)
  clear hl hr ht
  go_enter Tryd.func95, Tryd.ntmps95
  go_wp2_with fail
  refine HC.out.mono ?_
  rintro e w1 ⟨rfl, hb1⟩
  have HB1 := Lib.hid hb1
  clear hb1
  go_wp2
  go_ret
  exact ⟨rfl, HB1.out⟩
set_option maxHeartbeats 4000000 in
theorem croot_any (A : Option Addr) (n c : Nat) (l : List (List UInt8)) (w : World) (h : Ss w A n c l) (h32 : ∀ s ∈ l, s.length = 32) (hn : n ≤ 1000000) (ht : Tabs w) :
    Calls Tryd.prog 89 #[.slice A n c] w (StrPost (troot l) w) := by
  obtain ⟨R, hR⟩ : ∃ R, troot l = R := ⟨_, rfl⟩
  have hc := Root_any A n c l w h h32 hn ht
  rw [hR] at hc ⊢
  have HC := Lib.hid hc
  clear hc h h32 ht hR
  go_enter Tryd.func89, Tryd.ntmps89
  go_wp2_with fail
  refine HC.out.mono ?_
  rintro e w1 ⟨rfl, hb1⟩
  have HB1 := Lib.hid hb1
  clear hb1
  go_wp2
  go_ret
  exact ⟨rfl, HB1.out⟩
set_option maxRecDepth 100000 in
set_option maxHeartbeats 16000000 in
theorem prove_any : ∀ (q : Nat) (A : Option Addr) (n c : Nat) (l : List (List UInt8)) (m : Nat) (wh : Bool) (w : World), n ≤ q → Ss w A n c l → (∀ s ∈ l, s.length = 32) → n ≤ 1000 → 1 ≤ m → m ≤ n → Tabs w →
    Calls Tryd.prog 73 #[.slice A n c, .int .i64 (m : Int), .bool (!wh)] w (OwnSPost w.heap.size (tpart l m wh) w)
  | q, A, n, c, l, m, wh, w, hq, h, h32, hn, hm1, hmn, ht => by
    have hmx := h.max
    have hcap := h.cap
    rw [maxLen_eq] at hmx
    have HLN := Lib.hid h.len
    have H32 := Lib.hid h32
    have HT := Lib.hid ht
    have HRT := Lib.hid (fun (A' : Option Addr) (n' c' : Nat) (l' : List (List UInt8)) (W : World) (hW : Below w.heap.size w W) (g : Ss W A' n' c' l') (g2 : ∀ s ∈ l', s.length = 32) (g3 : n' ≤ 1000000) => croot_any A' n' c' l' W g g2 g3 (ht.below hW))
    clear h32 ht
    by_cases he : m = n
    · subst he
      have b1 : ((m : Int) == (m : Int)) = true := by simp
      cases wh with
      | true =>
        have HE := Lib.hid (show tpart l m true = [] by
          have := Cons.part_end tnd tnil l true
          rw [HLN.out] at this
          exact this)
        clear h
        go_enter Tryd.func73, Tryd.ntmps73
        go_wp2
        go_ret
        exact ⟨none, 0, 0, rfl, by rw [HE.out]; exact OwnS.nil _ _, Below.refl _ _⟩
      | false =>
        have HE := Lib.hid (show tpart l m false = [troot l] by
          have := Cons.part_end tnd tnil l false
          rw [HLN.out] at this
          exact this)
        have HS := Lib.hid h
        clear h
        go_enter Tryd.func73, Tryd.ntmps73
        go_wp2_with fail
        refine (HRT.out A m c l w (Below.refl _ _) HS.out H32.out (by omega)).mono ?_
        rintro e w1 ⟨rfl, hb1⟩
        have HB1 := Lib.hid hb1
        clear hb1
        go_wp2
        go_ret
        exact ⟨some ⟨w1.heap.size, 0, none⟩, 1, 1, rfl, by rw [HE.out]; exact OwnS.one w1 _ HB1.out.size, HB1.out.alloc HB1.out.size _⟩
    · have b1 : ((m : Int) == (n : Int)) = false := beq_eq_false_iff_ne.2 (by omega)
      have h2 : 2 ≤ n := by omega
      match q, hq with
      | 0, hq => omega
      | q + 1, hq =>
      obtain ⟨k0, hk⟩ : ∃ k0, Tree.sp n = k0 := ⟨_, rfl⟩
      have kp := Tree.sp_pos h2
      have kl := Tree.sp_lt h2
      rw [hk] at kp kl
      have hk0 : k0 ≤ n := by omega
      have HSP := Lib.hid (show Tree.spz (n : Int) = k0 by rw [Tree.spz_in h2 (by omega), hk])
      have HSS := Lib.hid (show ∀ W, Below w.heap.size w W → Ss W A n c l from fun W hW => h.keep hW)
      have HLT := Lib.hid (show (l.take k0).length = k0 ∧ (l.drop k0).length = n - k0 by rw [List.length_take, List.length_drop, HLN.out]; omega)
      have HTK := Lib.hid (all_take H32.out k0)
      have HDR := Lib.hid (all_drop H32.out k0)
      have IH := Lib.hid (show ∀ (A' : Option Addr) (n' c' : Nat) (l' : List (List UInt8)) (m' : Nat) (wh' : Bool) (W : World), (∀ s ∈ l', s.length = 32) → Ss W A' n' c' l' → (n' ≤ q ∧ n' ≤ 1000) → 1 ≤ m' → m' ≤ n' → Tabs W → Calls Tryd.prog 73 #[.slice A' n' c', .int .i64 (m' : Int), .bool (!wh')] W (OwnSPost W.heap.size (tpart l' m' wh') W) from fun A' n' c' l' m' wh' W g1 g2 g3 g4 g5 g6 => prove_any q A' n' c' l' m' wh' W g3.1 g2 g1 g3.2 g4 g5 g6)
      have hkq : (k0 ≤ q ∧ k0 ≤ 1000) ∧ (n - k0 ≤ q ∧ n - k0 ≤ 1000) := by omega
      have HKQ := Lib.hid hkq
      have HSPN := Lib.hid hk
      clear hk h hkq
      by_cases hlt : m ≤ k0
      · obtain ⟨V, hV⟩ : ∃ V, tpart (l.take k0) m wh = V := ⟨_, rfl⟩
        have HE := Lib.hid (show tpart l m wh = V ++ [troot (l.drop k0)] by
          have := Cons.part_left tnd tnil (l := l) (m := m) (by rw [HLN.out]; exact h2) (by rw [HLN.out]; exact he) (by rw [HLN.out, HSPN.out]; exact hlt) wh
          rw [HLN.out, HSPN.out] at this
          rw [← hV]
          exact this)
        have HVL := Lib.hid (show V.length ≤ 1000 by
          have := Cons.part_len tnd tnil _ (l.take k0) m wh (Nat.le_refl _) hm1 (by rw [HLT.out.1]; exact hlt)
          rw [HLT.out.1, show Cons.part tnd tnil (l.take k0) m wh = V from hV] at this; omega)
        have IHV := Lib.hid (show ∀ (A' : Option Addr) (n' c' : Nat) (W : World), Ss W A' n' c' (l.take k0) → (n' ≤ q ∧ n' ≤ 1000) → (m ≤ n' ∧ Tabs W) → Calls Tryd.prog 73 #[.slice A' n' c', .int .i64 (m : Int), .bool (!wh)] W (OwnSPost W.heap.size V W) from fun A' n' c' W g1 g2 g3 => by rw [← hV]; exact IH.out A' n' c' _ m wh W HTK.out g1 g2 hm1 g3.1 g3.2)
        unfold OwnSPost at IHV
        have hci : (m : Int) ≤ (k0 : Int) := by omega
        clear hV
        go_enter Tryd.func73, Tryd.ntmps73
        go_wp2_with fail
        refine (split_any (n : Int) w (by omega) (by omega)).mono ?_
        rintro e w1 ⟨rfl, rfl⟩
        rw [HSP.out]
        go_wp2_with fail
        refine Free.wp_free_l 11 (fun W => Below w.heap.size w W) [Free.kc (.slice A n c), Free.kc (.int .i64 (k0 : Int)), Free.kr (k0) ((l.take k0).map sv), Free.kc (.int .i64 (m : Int)), Free.kc (.bool (!wh)), Free.kO (w.heap.size) (V), Free.kc (.slice A n c), Free.kc (.int .i64 (k0 : Int)), Free.kr (n - k0) ((l.drop k0).map sv), Free.kc (sv (troot (l.drop k0))), Free.kr (1) ([sv (troot (l.drop k0))])] (by kernel_rfl) (by kernel_rfl) (by decide) (Below.refl _ _).drew (fun w w' h g => bt h g) ?_ ?_
        · refine Free.forall_succ (Free.forall_succ (Free.forall_succ (Free.forall_succ (Free.forall_succ (Free.forall_succ (Free.forall_succ (Free.forall_succ (Free.forall_succ (Free.forall_succ (Free.forall_succ (Free.forall_zero) ?_) ?_) ?_) ?_) ?_) ?_) ?_) ?_) ?_) ?_) ?_
          · exact Free.ob_plain _ rfl rfl fun vals wq hC hd => (by exact Free.d_move rfl (by kernel_rfl) rfl)
          · exact Free.ob_plain _ rfl rfl fun vals wq hC hd => (by exact Free.d_move rfl (by kernel_rfl) rfl)
          · exact Free.ob_plain _ rfl rfl fun vals wq hC hd => (by exact (by obtain ⟨A', hrun, hss⟩ := run_cutS_hi (HSS.out wq hC) k0 hk0; exact Free.d_slice rfl (Eq.trans (b := vals 0) (by kernel_rfl) (hd 0 (by kernel_rfl))) rfl (show _ = some (Value.int .i64 (k0 : Int)) from congrArg some (Eq.trans (b := vals 1) (by kernel_rfl) (hd 1 (by kernel_rfl)))) rfl hrun ⟨A', c, rfl, hss.rd, hss.cap, hss.max⟩))
          · exact Free.ob_plain _ rfl rfl fun vals wq hC hd => (by exact Free.d_move rfl (by kernel_rfl) rfl)
          · exact Free.ob_plain _ rfl rfl fun vals wq hC hd => (by exact Free.d_move rfl (by kernel_rfl) rfl)
          · exact Free.ob_plain _ rfl rfl fun vals wq hC hd => (by obtain ⟨A2, k2, e2, rd2, le2, mx2⟩ := hd 2 (by kernel_rfl); exact Free.d_call Tryd.func73 (by kernel_rfl) (by kernel_rfl) rfl rfl (Free.arg3 (Eq.trans (b := vals 2) (by kernel_rfl) e2) (Eq.trans (b := vals 3) (by kernel_rfl) (hd 3 (by kernel_rfl))) (Eq.trans (b := vals 4) (by kernel_rfl) (hd 4 (by kernel_rfl)))) ((IHV.out A2 _ k2 wq ⟨rd2, HLT.out.1, le2, mx2⟩ HKQ.out.1 ⟨by omega, HT.out.below hC⟩).mono fun e w2 h => (by obtain ⟨A1, n1, c1, he, ho, hb⟩ := h; exact ⟨_, he, ⟨A1, n1, c1, rfl, ho.base hC.size⟩, hb⟩)))
          · exact Free.ob_plain _ rfl rfl fun vals wq hC hd => (by exact Free.d_move rfl (by kernel_rfl) rfl)
          · exact Free.ob_plain _ rfl rfl fun vals wq hC hd => (by exact Free.d_move rfl (by kernel_rfl) rfl)
          · exact Free.ob_plain _ rfl rfl fun vals wq hC hd => (by exact (by obtain ⟨A', hrun, hss⟩ := run_cutS_lo (HSS.out wq hC) k0 hk0; exact Free.d_slice rfl (Eq.trans (b := vals 6) (by kernel_rfl) (hd 6 (by kernel_rfl))) (show _ = some (Value.int .i64 (k0 : Int)) from congrArg some (Eq.trans (b := vals 7) (by kernel_rfl) (hd 7 (by kernel_rfl)))) rfl rfl hrun ⟨A', c - k0, rfl, hss.rd, hss.cap, hss.max⟩))
          · exact Free.ob_plain _ rfl rfl fun vals wq hC hd => (by obtain ⟨A8, k8, e8, rd8, le8, mx8⟩ := hd 8 (by kernel_rfl); exact Free.d_call Tryd.func89 (by kernel_rfl) (by kernel_rfl) rfl rfl (Free.arg1 (Eq.trans (b := vals 8) (by kernel_rfl) e8)) ((HRT.out A8 _ k8 (l.drop k0) wq hC ⟨rd8, HLT.out.2, le8, mx8⟩ HDR.out (by omega)).mono fun e w2 h => ⟨_, h.1, rfl, h.2⟩))
          · exact Free.ob_plain _ rfl rfl fun vals wq hC hd => (by exact Free.d_build (w' := wq.alloc (.cells ([sv (troot (l.drop k0))] : List Value).toArray 9)) rfl (Free.parts1 (Eq.trans (b := vals 9) (by kernel_rfl) (hd 9 (by kernel_rfl)))) (by go_simp) ((Below.refl _ _).alloc (Nat.le_refl _) _) ⟨_, _, rfl, (rd_new wq [_] _ _).more (by unfold World.alloc; simp), Nat.le_refl _, by rw [maxLen_eq]; omega⟩)
        · intro vals wq hC hd
          have e0 : vals 0 = (.slice A n c) := hd 0 (by decide)
          have e1 : vals 1 = (.int .i64 (k0 : Int)) := hd 1 (by decide)
          obtain ⟨A2, k2, e2, rd2, le2, mx2⟩ := hd 2 (by decide)
          have e3 : vals 3 = (.int .i64 (m : Int)) := hd 3 (by decide)
          have e4 : vals 4 = (.bool (!wh)) := hd 4 (by decide)
          obtain ⟨A5, n5, k5, e5, ow5⟩ := hd 5 (by decide)
          have e6 : vals 6 = (.slice A n c) := hd 6 (by decide)
          have e7 : vals 7 = (.int .i64 (k0 : Int)) := hd 7 (by decide)
          obtain ⟨A8, k8, e8, rd8, le8, mx8⟩ := hd 8 (by decide)
          have e9 : vals 9 = (sv (troot (l.drop k0))) := hd 9 (by decide)
          obtain ⟨A10, k10, e10, rd10, le10, mx10⟩ := hd 10 (by decide)
          simp only [Free.frameOf, List.range, List.range.loop, List.foldl, Free.dstOf, List.getElem?_toArray, List.getElem?_cons_zero, List.getElem?_cons_succ, Option.bind_some, Act.put, List.setIfInBounds_toArray, List.set_cons_zero, List.set_cons_succ, e0, e1, e2, e3, e4, e5, e6, e7, e8, e9, e10]
          clear hd e0 e1 e2 e3 e4 e5 e6 e7 e8 e9 e10
          have hs1 : Ss wq A10 1 k10 [troot (l.drop k0)] := ⟨rd10, rfl, le10, mx10⟩
          have HB := Lib.hid hC
          have hnp : n5 ≤ 1000 := by rw [← ow5.len]; exact HVL.out
          clear hC rd10
          refine wl_appSS rfl (.tmp 29) (.tmp 34) rfl rfl ow5 rfl hs1 (by omega) HB.out.size ?_
          intro A' n' c' w' ho' hb'
          simp only [Act.put, List.setIfInBounds_toArray, List.set_cons_succ, List.set_cons_zero]
          go_wp2_with fail
          go_ret
          exact ⟨A', n', c', rfl, by rw [HE.out]; exact ho', HB.out.trans hb'⟩
      · obtain ⟨j, hj⟩ : ∃ j, j + k0 = m := ⟨m - k0, by omega⟩
        obtain ⟨V, hV⟩ : ∃ V, tpart (l.drop k0) j false = V := ⟨_, rfl⟩
        have hj1 : 1 ≤ j := by omega
        have hjn : j ≤ n - k0 := by omega
        have HE := Lib.hid (show tpart l m wh = V ++ [troot (l.take k0)] by
          have := Cons.part_right tnd tnil (l := l) (m := m) (by rw [HLN.out]; exact h2) (by rw [HLN.out]; exact he) (by rw [HLN.out, HSPN.out]; exact hlt) wh
          rw [HLN.out, HSPN.out, show m - k0 = j by omega] at this
          rw [← hV]
          exact this)
        have HVL := Lib.hid (show V.length ≤ 1000 by
          have := Cons.part_len tnd tnil _ (l.drop k0) j false (Nat.le_refl _) hj1 (by rw [HLT.out.2]; exact hjn)
          rw [HLT.out.2, show Cons.part tnd tnil (l.drop k0) j false = V from hV] at this; omega)
        have IHV := Lib.hid (show ∀ (A' : Option Addr) (n' c' : Nat) (W : World), Ss W A' n' c' (l.drop k0) → (n' ≤ q ∧ n' ≤ 1000) → (j ≤ n' ∧ Tabs W) → Calls Tryd.prog 73 #[.slice A' n' c', .int .i64 (j : Int), .bool true] W (OwnSPost W.heap.size V W) from fun A' n' c' W g1 g2 g3 => by rw [← hV]; exact IH.out A' n' c' _ j false W HDR.out g1 g2 hj1 g3.1 g3.2)
        unfold OwnSPost at IHV
        have hci : ¬ (m : Int) ≤ (k0 : Int) := by omega
        have hci2 : (k0 : Int) < (m : Int) := by omega
        clear hV
        go_enter Tryd.func73, Tryd.ntmps73
        go_wp2_with fail
        refine (split_any (n : Int) w (by omega) (by omega)).mono ?_
        rintro e w1 ⟨rfl, rfl⟩
        rw [HSP.out]
        go_wp2_with fail
        refine Free.wp_free_l 12 (fun W => Below w.heap.size w W) [Free.kc (.slice A n c), Free.kc (.int .i64 (k0 : Int)), Free.kr (n - k0) ((l.drop k0).map sv), Free.kc (.int .i64 (m : Int)), Free.kc (.int .i64 (k0 : Int)), Free.kc (.int .i64 (j : Int)), Free.kO (w.heap.size) (V), Free.kc (.slice A n c), Free.kc (.int .i64 (k0 : Int)), Free.kr (k0) ((l.take k0).map sv), Free.kc (sv (troot (l.take k0))), Free.kr (1) ([sv (troot (l.take k0))])] (by kernel_rfl) (by kernel_rfl) (by decide) (Below.refl _ _).drew (fun w w' h g => bt h g) ?_ ?_
        · refine Free.forall_succ (Free.forall_succ (Free.forall_succ (Free.forall_succ (Free.forall_succ (Free.forall_succ (Free.forall_succ (Free.forall_succ (Free.forall_succ (Free.forall_succ (Free.forall_succ (Free.forall_succ (Free.forall_zero) ?_) ?_) ?_) ?_) ?_) ?_) ?_) ?_) ?_) ?_) ?_) ?_
          · exact Free.ob_plain _ rfl rfl fun vals wq hC hd => (by exact Free.d_move rfl (by kernel_rfl) rfl)
          · exact Free.ob_plain _ rfl rfl fun vals wq hC hd => (by exact Free.d_move rfl (by kernel_rfl) rfl)
          · exact Free.ob_plain _ rfl rfl fun vals wq hC hd => (by exact (by obtain ⟨A', hrun, hss⟩ := run_cutS_lo (HSS.out wq hC) k0 hk0; exact Free.d_slice rfl (Eq.trans (b := vals 0) (by kernel_rfl) (hd 0 (by kernel_rfl))) (show _ = some (Value.int .i64 (k0 : Int)) from congrArg some (Eq.trans (b := vals 1) (by kernel_rfl) (hd 1 (by kernel_rfl)))) rfl rfl hrun ⟨A', c - k0, rfl, hss.rd, hss.cap, hss.max⟩))
          · exact Free.ob_plain _ rfl rfl fun vals wq hC hd => (by exact Free.d_move rfl (by kernel_rfl) rfl)
          · exact Free.ob_plain _ rfl rfl fun vals wq hC hd => (by exact Free.d_move rfl (by kernel_rfl) rfl)
          · exact Free.ob_plain _ rfl rfl fun vals wq hC hd => (by exact Free.d_bin rfl (Eq.trans (b := vals 3) (by kernel_rfl) (hd 3 (by kernel_rfl))) (Eq.trans (b := vals 4) (by kernel_rfl) (hd 4 (by kernel_rfl))) (by go_simp) (by first | (go_simp; done) | (go_simp; omega) | (go_simp; rw [IntWalk.i64_in _ (by omega)]; done) | (go_simp; rw [IntWalk.i64_in _ (by omega)]; omega)) rfl)
          · exact Free.ob_plain _ rfl rfl fun vals wq hC hd => (by obtain ⟨A2, k2, e2, rd2, le2, mx2⟩ := hd 2 (by kernel_rfl); exact Free.d_call Tryd.func73 (by kernel_rfl) (by kernel_rfl) rfl rfl (Free.arg3 (Eq.trans (b := vals 2) (by kernel_rfl) e2) (Eq.trans (b := vals 5) (by kernel_rfl) (hd 5 (by kernel_rfl))) rfl) ((IHV.out A2 _ k2 wq ⟨rd2, HLT.out.2, le2, mx2⟩ HKQ.out.2 ⟨by omega, HT.out.below hC⟩).mono fun e w2 h => (by obtain ⟨A1, n1, c1, he, ho, hb⟩ := h; exact ⟨_, he, ⟨A1, n1, c1, rfl, ho.base hC.size⟩, hb⟩)))
          · exact Free.ob_plain _ rfl rfl fun vals wq hC hd => (by exact Free.d_move rfl (by kernel_rfl) rfl)
          · exact Free.ob_plain _ rfl rfl fun vals wq hC hd => (by exact Free.d_move rfl (by kernel_rfl) rfl)
          · exact Free.ob_plain _ rfl rfl fun vals wq hC hd => (by exact (by obtain ⟨A', hrun, hss⟩ := run_cutS_hi (HSS.out wq hC) k0 hk0; exact Free.d_slice rfl (Eq.trans (b := vals 7) (by kernel_rfl) (hd 7 (by kernel_rfl))) rfl (show _ = some (Value.int .i64 (k0 : Int)) from congrArg some (Eq.trans (b := vals 8) (by kernel_rfl) (hd 8 (by kernel_rfl)))) rfl hrun ⟨A', c, rfl, hss.rd, hss.cap, hss.max⟩))
          · exact Free.ob_plain _ rfl rfl fun vals wq hC hd => (by obtain ⟨A9, k9, e9, rd9, le9, mx9⟩ := hd 9 (by kernel_rfl); exact Free.d_call Tryd.func89 (by kernel_rfl) (by kernel_rfl) rfl rfl (Free.arg1 (Eq.trans (b := vals 9) (by kernel_rfl) e9)) ((HRT.out A9 _ k9 (l.take k0) wq hC ⟨rd9, HLT.out.1, le9, mx9⟩ HTK.out (by omega)).mono fun e w2 h => ⟨_, h.1, rfl, h.2⟩))
          · exact Free.ob_plain _ rfl rfl fun vals wq hC hd => (by exact Free.d_build (w' := wq.alloc (.cells ([sv (troot (l.take k0))] : List Value).toArray 9)) rfl (Free.parts1 (Eq.trans (b := vals 10) (by kernel_rfl) (hd 10 (by kernel_rfl)))) (by go_simp) ((Below.refl _ _).alloc (Nat.le_refl _) _) ⟨_, _, rfl, (rd_new wq [_] _ _).more (by unfold World.alloc; simp), Nat.le_refl _, by rw [maxLen_eq]; omega⟩)
        · intro vals wq hC hd
          have e0 : vals 0 = (.slice A n c) := hd 0 (by decide)
          have e1 : vals 1 = (.int .i64 (k0 : Int)) := hd 1 (by decide)
          obtain ⟨A2, k2, e2, rd2, le2, mx2⟩ := hd 2 (by decide)
          have e3 : vals 3 = (.int .i64 (m : Int)) := hd 3 (by decide)
          have e4 : vals 4 = (.int .i64 (k0 : Int)) := hd 4 (by decide)
          have e5 : vals 5 = (.int .i64 (j : Int)) := hd 5 (by decide)
          obtain ⟨A6, n6, k6, e6, ow6⟩ := hd 6 (by decide)
          have e7 : vals 7 = (.slice A n c) := hd 7 (by decide)
          have e8 : vals 8 = (.int .i64 (k0 : Int)) := hd 8 (by decide)
          obtain ⟨A9, k9, e9, rd9, le9, mx9⟩ := hd 9 (by decide)
          have e10 : vals 10 = (sv (troot (l.take k0))) := hd 10 (by decide)
          obtain ⟨A11, k11, e11, rd11, le11, mx11⟩ := hd 11 (by decide)
          simp only [Free.frameOf, List.range, List.range.loop, List.foldl, Free.dstOf, List.getElem?_toArray, List.getElem?_cons_zero, List.getElem?_cons_succ, Option.bind_some, Act.put, List.setIfInBounds_toArray, List.set_cons_zero, List.set_cons_succ, e0, e1, e2, e3, e4, e5, e6, e7, e8, e9, e10, e11]
          clear hd e0 e1 e2 e3 e4 e5 e6 e7 e8 e9 e10 e11
          have hs1 : Ss wq A11 1 k11 [troot (l.take k0)] := ⟨rd11, rfl, le11, mx11⟩
          have HB := Lib.hid hC
          have hnp : n6 ≤ 1000 := by rw [← ow6.len]; exact HVL.out
          clear hC rd11
          refine wl_appSS rfl (.tmp 42) (.tmp 47) rfl rfl ow6 rfl hs1 (by omega) HB.out.size ?_
          intro A' n' c' w' ho' hb'
          simp only [Act.put, List.setIfInBounds_toArray, List.set_cons_succ, List.set_cons_zero]
          go_wp2_with fail
          go_ret
          exact ⟨A', n', c', rfl, by rw [HE.out]; exact ho', HB.out.trans hb'⟩
end Go.Proofs.YtlcdpbpbfofmmaaDoor

namespace Go.Proofs.YtlcdpbpbfofmmaaDoor
set_option maxRecDepth 100000
set_option linter.unusedVariables false
open Go.RowKit

def tprove (l : List (List UInt8)) (m : Nat) : List (List UInt8) := if m = 0 then [] else tpart l m true
theorem tprove_zero (l : List (List UInt8)) : tprove l 0 = [] := rfl
theorem tprove_pos (l : List (List UInt8)) {m : Nat} (h : m ≠ 0) : tprove l m = tpart l m true := by unfold tprove; rw [if_neg h]
theorem tprove_all {l : List (List UInt8)} (h : ∀ s ∈ l, s.length = 32) {m : Nat} (hm : m ≤ l.length) : ∀ s ∈ tprove l m, s.length = 32 := by
  by_cases h0 : m = 0
  · subst h0; rw [tprove_zero]; simp
  · rw [tprove_pos l h0]
    exact Cons.part_all tnd tnil (fun s => s.length = 32) (fun l h => troot_len h) l.length l m true (Nat.le_refl _) (by omega) hm h
theorem tprove_len {l : List (List UInt8)} {m : Nat} (hm : m ≤ l.length) : (tprove l m).length ≤ l.length := by
  by_cases h0 : m = 0
  · subst h0; rw [tprove_zero]; simp
  · rw [tprove_pos l h0]
    exact Cons.part_len tnd tnil l.length l m true (Nat.le_refl _) (by omega) hm
set_option maxHeartbeats 4000000 in
theorem cprove_any (A : Option Addr) (n c : Nat) (l : List (List UInt8)) (m : Nat) (w : World) (h : Ss w A n c l) (h32 : ∀ s ∈ l, s.length = 32) (hn : n ≤ 1000) (hm : m ≤ n) (ht : Tabs w) :
    Calls Tryd.prog 32 #[.slice A n c, .int .i64 (m : Int)] w (PathPost (tprove l m) w) := by
  have hmx := h.max
  have hcap := h.cap
  rw [maxLen_eq] at hmx
  have HR := Lib.hid (Root_any A n c l w h h32 (by omega) ht)
  have HT := Lib.hid ht
  have HS := Lib.hid h
  have H32 := Lib.hid h32
  have g1 : ¬ (m : Int) < 0 := by omega
  have g2 : ¬ (n : Int) < (m : Int) := by omega
  clear h h32 ht
  by_cases h0 : m = 0
  · subst h0
    go_enter Tryd.func32, Tryd.ntmps32
    go_wp2_with fail
    refine HR.out.mono ?_
    rintro e w1 ⟨rfl, hb1⟩
    have HB1 := Lib.hid hb1
    clear hb1
    go_wp2
    go_ret2
    exact ⟨none, 0, 0, rfl, by rw [tprove_zero]; exact OwnS.nil _ _, HB1.out⟩
  · have b0 : ((m : Int) == 0) = false := beq_eq_false_iff_ne.2 (by omega)
    have HP := Lib.hid (fun (W : World) (hW : Below w.heap.size w W) => prove_any n A n c l m true W (Nat.le_refl _) (HS.out.keep hW) H32.out hn (by omega) hm (HT.out.below hW))
    have HE := Lib.hid (tprove_pos l h0)
    go_enter Tryd.func32, Tryd.ntmps32
    go_wp2_with fail
    refine HR.out.mono ?_
    rintro e w1 ⟨rfl, hb1⟩
    have HB1 := Lib.hid hb1
    clear hb1
    go_wp2_with fail
    refine (HP.out w1 HB1.out).mono ?_
    rintro e w2 ⟨A2, n2, c2, rfl, ho2, hb2⟩
    have HB2 := Lib.hid (bt HB1.out hb2)
    clear hb2
    go_wp2
    go_ret2
    exact ⟨A2, n2, c2, rfl, by rw [HE.out]; exact ho2.base HB1.out.size, HB2.out⟩
set_option maxHeartbeats 4000000 in
theorem cprove_no (A : Option Addr) (n c : Nat) (l : List (List UInt8)) (m : Int) (w : World) (h : Ss w A n c l) (hwf : ∀ s ∈ l, s.length ≤ maxLen) (hn : n ≤ 1000) (ht : Tabs w) (h1 : -9223372036854775808 ≤ m) (h2 : m ≤ 9223372036854775807)
    (hbad : Tree.all32 l = false ∨ m < 0 ∨ (n : Int) < m) :
    Calls Tryd.prog 32 #[.slice A n c, .int .i64 m] w fun e w' => e = .returned (.tuple #[.slice none 0 0, .int .i64 1]) ∧ Below w.heap.size w w' := by
  have hmx := h.max
  have hcap := h.cap
  rw [maxLen_eq] at hmx
  have hr := Root_all A n c l w h hwf (by omega) ht
  cases ha : Tree.all32 l with
  | false =>
    rw [rangeV_no ha] at hr
    have HR := Lib.hid hr
    clear hr h hwf ht hbad ha
    go_enter Tryd.func32, Tryd.ntmps32
    go_wp2_with fail
    refine HR.out.mono ?_
    rintro e w1 ⟨rfl, hb1⟩
    have HB1 := Lib.hid hb1
    clear hb1
    go_wp2
    go_ret2
    exact ⟨rfl, HB1.out⟩
  | true =>
    rw [rangeV_yes ha] at hr
    rw [ha] at hbad
    have HR := Lib.hid hr
    clear hr h hwf ht ha
    by_cases h0 : m < 0
    · clear hbad
      go_enter Tryd.func32, Tryd.ntmps32
      go_wp2_with fail
      refine HR.out.mono ?_
      rintro e w1 ⟨rfl, hb1⟩
      have HB1 := Lib.hid hb1
      clear hb1
      go_wp2
      go_ret2
      exact ⟨rfl, HB1.out⟩
    · have h3 : (n : Int) < m := by
        rcases hbad with h | h | h
        · cases h
        · exact absurd h h0
        · exact h
      clear hbad
      go_enter Tryd.func32, Tryd.ntmps32
      go_wp2_with fail
      refine HR.out.mono ?_
      rintro e w1 ⟨rfl, hb1⟩
      have HB1 := Lib.hid hb1
      clear hb1
      go_wp2
      go_ret2
      exact ⟨rfl, HB1.out⟩
theorem ev_ne : ∀ (k i j : Nat), j ≤ k → j ≠ 0 → i ≤ j → Cons.ev i j ≠ []
  | 0, i, j, h, h0, _ => absurd (by omega) h0
  | k + 1, i, j, h, h0, hi => by
    by_cases ho : i % 2 = 1
    · rw [Cons.ev_odd h0 ho]; simp
    · by_cases he : i = j
      · subst he
        rw [Cons.ev_same h0 (by omega)]
        exact ev_ne k (i / 2) (i / 2) (by omega) (by omega) (Nat.le_refl _)
      · rw [Cons.ev_even h0 (by omega) he]; simp
/-- Where the climb is. -/
structure ClimbRel (F : Option (List UInt8 × List UInt8)) (xs : List (List UInt8)) (i j k : Nat) (a b : List UInt8) : Prop where
  le : i ≤ j
  la : a.length = 32
  lb : b.length = 32
  eq : F = Cons.run tnd a b (Cons.ev i j) (xs.drop k)
theorem drop_next {α : Type} {l : List α} {k : Nat} {x : α} (h : l[k]? = some x) : l.drop k = x :: l.drop (k + 1) := by
  obtain ⟨h1, h2⟩ := List.getElem?_eq_some_iff.1 h
  rw [List.drop_eq_getElem_cons h1, h2]
theorem ClimbRel.stop {F : Option (List UInt8 × List UInt8)} {xs : List (List UInt8)} {i k : Nat} {a b d : List UInt8} (h : ClimbRel F xs i 0 k a b) (hd : xs[k]? = some d) : F = none := by
  rw [h.eq, Cons.ev_zero, drop_next hd]; rfl
theorem ClimbRel.left {F : Option (List UInt8 × List UInt8)} {xs : List (List UInt8)} {i j k : Nat} {a b d : List UInt8} (h : ClimbRel F xs i j k a b) (hd : xs[k]? = some d) (h0 : j ≠ 0) (he : i % 2 = 0) (hne : i ≠ j) : ClimbRel F xs (i / 2) (j / 2) (k + 1) a (tnd b d) :=
  ⟨by have := h.le; omega, h.la, tnd_len _ _, by rw [h.eq, Cons.ev_even h0 he hne, drop_next hd]; rfl⟩
theorem ClimbRel.right {F : Option (List UInt8 × List UInt8)} {xs : List (List UInt8)} {i j k i2 j2 : Nat} {a b d : List UInt8} (h : ClimbRel F xs i j k a b) (hd : xs[k]? = some d) (h2 : Cons.ev i2 j2 = Cons.ev i j) (h0 : j2 ≠ 0) (ho : i2 % 2 = 1) (hle : i2 ≤ j2) : ClimbRel F xs (i2 / 2) (j2 / 2) (k + 1) (tnd d a) (tnd d b) :=
  ⟨by omega, tnd_len _ _, tnd_len _ _, by rw [h.eq, ← h2, Cons.ev_odd h0 ho, drop_next hd]; rfl⟩
theorem ClimbRel.done {F : Option (List UInt8 × List UInt8)} {xs : List (List UInt8)} {i j k : Nat} {a b : List UInt8} (h : ClimbRel F xs i j k a b) (hk : xs.length ≤ k) : F = if j = 0 then some (a, b) else none := by
  rw [h.eq, List.drop_eq_nil_of_le hk]
  split
  · rename_i h0
    rw [h0, Cons.ev_zero]; rfl
  · rename_i h0
    exact Cons.run_none _ _ _ _ (ev_ne j i j (Nat.le_refl _) h0 h.le)
/-- Where the inner loop is. -/
structure InLoop (i j i3 j3 : Nat) : Prop where
  ev : Cons.ev i3 j3 = Cons.ev i j
  ne : j3 ≠ 0
  or : i3 % 2 = 1 ∨ i3 = j3
set_option maxRecDepth 100000 in
set_option maxHeartbeats 16000000 in
theorem cclimb_any (i j : Nat) (one two x : List UInt8) (A : Option Addr) (n c : Nat) (xs : List (List UInt8)) (w : World) (h : Ss w A n c (x :: xs)) (h32 : ∀ s ∈ x :: xs, s.length = 32) (hij : i ≤ j) (hj : j ≤ 1099511627776) (hn : n ≤ 1000) (ht : Tabs w) :
    Calls Tryd.prog 88 #[.int .i64 (i : Int), .int .i64 (j : Int), sv one, sv two, .slice A n c] w (RetB (decide (Cons.up tnd (Cons.U i j) (x :: xs) = some (one, two))) w) := by
  have hmx := h.max
  have hcap := h.cap
  rw [maxLen_eq] at hmx
  have hln := h.len
  rw [List.length_cons] at hln
  obtain ⟨V, hV⟩ : ∃ V, decide (Cons.up tnd (Cons.U i j) (x :: xs) = some (one, two)) = V := ⟨_, rfl⟩
  rw [hV]
  obtain ⟨F, hF⟩ : ∃ F, Cons.run tnd x x (Cons.U i j) xs = F := ⟨_, rfl⟩
  have HV := Lib.hid (show decide (F = some (one, two)) = V by rw [← hV, ← hF]; rfl)
  have HF := Lib.hid hF
  have HT := Lib.hid ht
  have hx32 : x.length = 32 := h32 x (by simp)
  have HX32 := Lib.hid (show ∀ s ∈ xs, s.length = 32 from fun s hs => h32 s (by simp [hs]))
  have HX := Lib.hid hx32
  have HXL := Lib.hid (show xs.length + 1 = n from hln)
  obtain ⟨b, off, rfl, hbb, hcell, x', hx'⟩ := h.at (k := 0) (by omega)
  have x0 : w.cell? ⟨b, off, none⟩ = some (sv x) := hcell 0 x rfl
  have X0 := Lib.hid (show ∀ W, Below w.heap.size w W → W.cell? ⟨b, off, none⟩ = some (sv x) from fun W hW => (hW.cell (p := ⟨b, off, none⟩) hbb).trans x0)
  have HS := Lib.hid h
  have hn1 : 1 ≤ n := by omega
  clear hV hF h32 ht hx32 hcell hx' x' h hln
  go_enter Tryd.func88, Tryd.ntmps88
  go_wp2
  go_step3
  go_wp2
  go_loopw [0, 1] (fun vi vj wr => ∃ i1 j1 : Nat, vi = .int .i64 i1 ∧ vj = .int .i64 j1 ∧ i1 ≤ j1 ∧ j1 ≤ 1099511627776 ∧ Hid (Cons.U i1 j1 = Cons.U i j) ∧ w = wr) (fun vi _ _ => (intOf vi).toNat)
  case atStart => exact ⟨i, j, rfl, rfl, hij, hj, Lib.hid rfl, rfl⟩
  case round =>
    obtain ⟨i1, j1, rfl, rfl, hle, hjb, hU, rfl⟩ := hrel
    have f1 := and1 i1 (by omega)
    by_cases hodd : i1 % 2 = 1
    · have c1 : (i1 : Int) % 2 = 1 := by omega
      have HU := Lib.hid (show Cons.U (i1 / 2) (j1 / 2) = Cons.U i j by rw [← hU.out, Cons.U_odd hodd])
      go_wp2
      go_roundw
      case rel => exact ⟨i1 / 2, j1 / 2, by go_num, by go_num, by omega, by omega, HU, trivial⟩
      case measure => simp [intOf]; omega
    · have c1 : (i1 : Int) % 2 = 0 := by omega
      have HR0 := Lib.hid (show ClimbRel F xs i1 j1 0 x x from ⟨hle, HX.out, HX.out, by rw [← HF.out, ← hU.out, Cons.U_even (by omega)]; rfl⟩)
      clear hU
      go_wp2_with fail
      refine Free.wp_free_l 8 (fun W => Below w.heap.size w W) [Free.kc (.slice (some ⟨b, off, none⟩) n c), Free.kc (.pointer (some ⟨b, off, none⟩)), Free.kc (sv x), Free.kc (.slice (some ⟨b, off, none⟩) n c), Free.kc (.pointer (some ⟨b, off, none⟩)), Free.kc (sv x), Free.kc (sv x), Free.kc (sv x)] (by kernel_rfl) (by kernel_rfl) (by decide) (Below.refl _ _).drew (fun w w' h g => bt h g) ?_ ?_
      · refine Free.forall_succ (Free.forall_succ (Free.forall_succ (Free.forall_succ (Free.forall_succ (Free.forall_succ (Free.forall_succ (Free.forall_succ (Free.forall_zero) ?_) ?_) ?_) ?_) ?_) ?_) ?_) ?_
        · exact Free.ob_plain _ rfl rfl fun vals wq hC hd => (by exact Free.d_move rfl (by kernel_rfl) rfl)
        · exact Free.ob_plain _ rfl rfl fun vals wq hC hd => (by exact Free.d_indexAddr rfl (Eq.trans (b := vals 0) (by kernel_rfl) (hd 0 (by kernel_rfl))) (show _ = (Value.int .i64 0) from rfl) (run_idx 24 Tryd.underlying24 (by kernel_rfl) b off n c 0 _ (by rfl) (by omega)) rfl)
        · exact Free.ob_plain _ rfl rfl fun vals wq hC hd => (by exact Free.d_load rfl (Eq.trans (b := vals 1) (by kernel_rfl) (hd 1 (by kernel_rfl))) (by have hcc := X0.out wq hC; go_simp) rfl)
        · exact Free.ob_plain _ rfl rfl fun vals wq hC hd => (by exact Free.d_move rfl (by kernel_rfl) rfl)
        · exact Free.ob_plain _ rfl rfl fun vals wq hC hd => (by exact Free.d_indexAddr rfl (Eq.trans (b := vals 3) (by kernel_rfl) (hd 3 (by kernel_rfl))) (show _ = (Value.int .i64 0) from rfl) (run_idx 24 Tryd.underlying24 (by kernel_rfl) b off n c 0 _ (by rfl) (by omega)) rfl)
        · exact Free.ob_plain _ rfl rfl fun vals wq hC hd => (by exact Free.d_load rfl (Eq.trans (b := vals 4) (by kernel_rfl) (hd 4 (by kernel_rfl))) (by have hcc := X0.out wq hC; go_simp) rfl)
        · exact Free.ob_plain _ rfl rfl fun vals wq hC hd => (by exact Free.d_assign rfl (Eq.trans (b := vals 2) (by kernel_rfl) (hd 2 (by kernel_rfl))) rfl)
        · exact Free.ob_plain _ rfl rfl fun vals wq hC hd => (by exact Free.d_assign rfl (Eq.trans (b := vals 5) (by kernel_rfl) (hd 5 (by kernel_rfl))) rfl)
      · intro vals wq hC hd
        have e0 : vals 0 = (.slice (some ⟨b, off, none⟩) n c) := hd 0 (by decide)
        have e1 : vals 1 = (.pointer (some ⟨b, off, none⟩)) := hd 1 (by decide)
        have e2 : vals 2 = (sv x) := hd 2 (by decide)
        have e3 : vals 3 = (.slice (some ⟨b, off, none⟩) n c) := hd 3 (by decide)
        have e4 : vals 4 = (.pointer (some ⟨b, off, none⟩)) := hd 4 (by decide)
        have e5 : vals 5 = (sv x) := hd 5 (by decide)
        have e6 : vals 6 = (sv x) := hd 6 (by decide)
        have e7 : vals 7 = (sv x) := hd 7 (by decide)
        simp only [Free.frameOf, List.range, List.range.loop, List.foldl, Free.dstOf, List.getElem?_toArray, List.getElem?_cons_zero, List.getElem?_cons_succ, Option.bind_some, Act.put, List.setIfInBounds_toArray, List.set_cons_zero, List.set_cons_succ, e0, e1, e2, e3, e4, e5, e6, e7]
        refine wpList_nil ?_
        clear hd e0 e1 e2 e3 e4 e5 e6 e7
        have HB0 := Lib.hid hC
        clear hC
        obtain ⟨m, hm⟩ : ∃ m, m + 1 = n := ⟨n - 1, by omega⟩
        have e1 : n - 1 = m := by omega
        have HXM := Lib.hid (show xs.length = m by have := HXL.out; omega)
        go_wp2_with fail
        go_step3
        go_wp2_with (refine wl_cutS_lo rfl (.tmp 28) (.const (.int .i64 1)) rfl rfl (HS.out.keep HB0.out) 1 rfl (by omega) ?_; intro A2 hs2)
        rw [e1] at hs2
        have HS2 := Lib.hid hs2
        clear hs2
        have hc2 : m ≤ c - 1 := by omega
        have hc3 : c - 1 ≤ 9223372036854775807 := by omega
        obtain ⟨c', hc'⟩ : ∃ c', c - 1 = c' := ⟨_, rfl⟩
        try rw [e1]
        rw [hc'] at hc2 hc3 HS2 ⊢
        go_loopw [0, 1, 11, 12, 31] (fun v0 v1 va vb vk wr => ∃ (i2 j2 k : Nat) (a b : List UInt8), v0 = .int .i64 i2 ∧ v1 = .int .i64 j2 ∧ va = sv a ∧ vb = sv b ∧ vk = .int .i64 k ∧ k ≤ m ∧ j2 ≤ 1099511627776 ∧ i2 ≤ j2 ∧ ClimbRel F xs i2 j2 k a b ∧ Below wq.heap.size wq wr) (fun _ _ _ _ vk _ => m - (intOf vk).toNat)
        case atStart => exact ⟨i1, j1, 0, x, x, rfl, rfl, rfl, rfl, rfl, by omega, hjb, hle, HR0.out, Below.refl _ _⟩
        case round =>
          obtain ⟨i2, j2, k, a, b', rfl, rfl, rfl, rfl, rfl, hk, hjb2, hle2, hrel, hbel⟩ := hrel
          have HRL := Lib.hid hrel
          have HBR := Lib.hid hbel
          clear hrel hbel f1 c1
          obtain ⟨wo, rfl⟩ : ∃ wo : World, wo = wr := ⟨_, rfl⟩
          have f1 := and1 i2 (by omega)
          by_cases hlt : k < m
          · obtain ⟨b2, off2, rfl, hbb2, hcell2, d, hd⟩ := HS2.out.at (k := k) hlt
            have x1 := (HBR.out.cell (p := ⟨b2, off2 + k, none⟩) hbb2).trans (hcell2 k d hd)
            have HD := Lib.hid hd
            have HD32 := Lib.hid (show d.length = 32 from HX32.out d (List.mem_of_getElem? hd))
            clear hcell2 hd
            by_cases hj0 : j2 = 0
            · subst hj0
              have HE := Lib.hid (show V = false by rw [← HV.out, HRL.out.stop HD.out]; rfl)
              go_wp2
              go_ret
              exact ⟨by rw [HE.out]; rfl, bt HB0.out HBR.out⟩
            · have b0 : ((j2 : Int) == 0) = false := beq_eq_false_iff_ne.2 (by omega)
              by_cases hodd : i2 % 2 = 1
              · have c1 : (i2 : Int) % 2 = 1 := by omega
                have HIN := Lib.hid (show InLoop i2 j2 i2 j2 from ⟨rfl, hj0, .inl hodd⟩)
                go_wp2_with fail
                refine (cnode_any d a _ HD32.out HRL.out.la (HT.out.below (bt HB0.out HBR.out))).mono ?_
                rintro e w3 ⟨rfl, hb3⟩
                have HB3 := Lib.hid (bt HBR.out hb3)
                clear hb3
                go_wp2_with fail
                refine (cnode_any d b' _ HD32.out HRL.out.lb (HT.out.below (bt HB0.out HB3.out))).mono ?_
                rintro e w4 ⟨rfl, hb4⟩
                have HB4 := Lib.hid (bt HB3.out hb4)
                clear hb4 f1 c1 x1
                go_wp2_with fail
                go_loopw [0, 1] (fun v0 v1 wr => ∃ (i3 j3 : Nat), v0 = .int .i64 i3 ∧ v1 = .int .i64 j3 ∧ i3 ≤ j3 ∧ j3 ≤ 1099511627776 ∧ InLoop i2 j2 i3 j3 ∧ Below wq.heap.size wq wr) (fun v0 _ _ => (intOf v0).toNat)
                case atStart => exact ⟨i2, j2, rfl, rfl, by omega, by omega, HIN.out, HB4.out⟩
                case round =>
                  obtain ⟨i3, j3, rfl, rfl, hle3, hjb3, hin, hb5⟩ := hrel
                  have HIN3 := Lib.hid hin
                  have HB5 := Lib.hid hb5
                  clear hin hb5
                  obtain ⟨wi, rfl⟩ : ∃ wi : World, wi = wr := ⟨_, rfl⟩
                  have f3 := and1 i3 (by omega)
                  by_cases ho3 : i3 % 2 = 1
                  · have c3 : (i3 : Int) % 2 = 1 := by omega
                    go_wp2
                    go_roundw
                    case rel => exact ⟨i3 / 2, j3 / 2, k + 1, tnd d a, tnd d b', by go_num, by go_num, rfl, rfl, by go_num, by omega, by omega, by omega, HRL.out.right HD.out HIN3.out.ev HIN3.out.ne ho3 hle3, HB5.out⟩
                    case measure => simp [intOf]; omega
                  · have c3 : (i3 : Int) % 2 = 0 := by omega
                    obtain rfl : i3 = j3 := HIN3.out.or.resolve_left ho3
                    have hne3 : i3 ≠ 0 := HIN3.out.ne
                    have b3 : ((i3 : Int) == 0) = false := beq_eq_false_iff_ne.2 (by omega)
                    go_wp2
                    go_roundw
                    case rel => exact ⟨i3 / 2, i3 / 2, by go_num, by go_num, Nat.le_refl _, by omega, ⟨by rw [← HIN3.out.ev, Cons.ev_same hne3 (by omega)], by omega, .inr rfl⟩, HB5.out⟩
                    case measure => simp [intOf]; omega
              · have c1 : (i2 : Int) % 2 = 0 := by omega
                by_cases hsame : i2 = j2
                · obtain rfl : i2 = j2 := hsame
                  have b1 : ((i2 : Int) == (i2 : Int)) = true := by simp
                  have HIN := Lib.hid (show InLoop i2 i2 i2 i2 from ⟨rfl, hj0, .inr rfl⟩)
                  go_wp2_with fail
                  refine (cnode_any d a _ HD32.out HRL.out.la (HT.out.below (bt HB0.out HBR.out))).mono ?_
                  rintro e w3 ⟨rfl, hb3⟩
                  have HB3 := Lib.hid (bt HBR.out hb3)
                  clear hb3
                  go_wp2_with fail
                  refine (cnode_any d b' _ HD32.out HRL.out.lb (HT.out.below (bt HB0.out HB3.out))).mono ?_
                  rintro e w4 ⟨rfl, hb4⟩
                  have HB4 := Lib.hid (bt HB3.out hb4)
                  clear hb4 f1 c1 x1
                  go_wp2_with fail
                  go_loopw [0, 1] (fun v0 v1 wr => ∃ (i3 j3 : Nat), v0 = .int .i64 i3 ∧ v1 = .int .i64 j3 ∧ i3 ≤ j3 ∧ j3 ≤ 1099511627776 ∧ InLoop i2 i2 i3 j3 ∧ Below wq.heap.size wq wr) (fun v0 _ _ => (intOf v0).toNat)
                  case atStart => exact ⟨i2, i2, rfl, rfl, by omega, by omega, HIN.out, HB4.out⟩
                  case round =>
                    obtain ⟨i3, j3, rfl, rfl, hle3, hjb3, hin, hb5⟩ := hrel
                    have HIN3 := Lib.hid hin
                    have HB5 := Lib.hid hb5
                    clear hin hb5
                    obtain ⟨wi, rfl⟩ : ∃ wi : World, wi = wr := ⟨_, rfl⟩
                    have f3 := and1 i3 (by omega)
                    by_cases ho3 : i3 % 2 = 1
                    · have c3 : (i3 : Int) % 2 = 1 := by omega
                      go_wp2
                      go_roundw
                      case rel => exact ⟨i3 / 2, j3 / 2, k + 1, tnd d a, tnd d b', by go_num, by go_num, rfl, rfl, by go_num, by omega, by omega, by omega, HRL.out.right HD.out HIN3.out.ev HIN3.out.ne ho3 hle3, HB5.out⟩
                      case measure => simp [intOf]; omega
                    · have c3 : (i3 : Int) % 2 = 0 := by omega
                      obtain rfl : i3 = j3 := HIN3.out.or.resolve_left ho3
                      have hne3 : i3 ≠ 0 := HIN3.out.ne
                      have b3 : ((i3 : Int) == 0) = false := beq_eq_false_iff_ne.2 (by omega)
                      go_wp2
                      go_roundw
                      case rel => exact ⟨i3 / 2, i3 / 2, by go_num, by go_num, Nat.le_refl _, by omega, ⟨by rw [← HIN3.out.ev, Cons.ev_same hne3 (by omega)], by omega, .inr rfl⟩, HB5.out⟩
                      case measure => simp [intOf]; omega
                · have b1 : ((i2 : Int) == (j2 : Int)) = false := beq_eq_false_iff_ne.2 (by omega)
                  have b2 : ((i2 : Int) != (j2 : Int)) = true := by simp [b1, bne]
                  go_wp2_with fail
                  refine (cnode_any b' d _ HRL.out.lb HD32.out (HT.out.below (bt HB0.out HBR.out))).mono ?_
                  rintro e w3 ⟨rfl, hb3⟩
                  have HB3 := Lib.hid (bt HBR.out hb3)
                  clear hb3
                  go_wp2
                  go_roundw
                  case rel => exact ⟨i2 / 2, j2 / 2, k + 1, a, tnd b' d, by go_num, by go_num, rfl, rfl, by go_num, by omega, by omega, by omega, HRL.out.left HD.out hj0 (by omega) hsame, HB3.out⟩
                  case measure => simp [intOf]; omega
          · obtain rfl : k = m := by omega
            have hdone := HRL.out.done (by have := HXM.out; omega)
            by_cases hj0 : j2 = 0
            · subst hj0
              rw [if_pos rfl] at hdone
              have e1 := strEq a one
              have e2 := strEq b' two
              have HE := Lib.hid (show V = (decide (a = one) && decide (b' = two)) by
                rw [← HV.out, hdone]
                by_cases h1 : a = one <;> by_cases h2 : b' = two <;> simp [h1, h2])
              clear hdone
              by_cases h1 : a = one
              · rw [decide_eq_true h1] at e1 HE
                by_cases h2 : b' = two
                · rw [decide_eq_true h2] at e2 HE
                  have HE2 := Lib.hid (show V = true from HE.out)
                  clear h1 h2
                  go_wp2
                  go_ret
                  exact ⟨by rw [HE2.out]; rfl, bt HB0.out HBR.out⟩
                · rw [decide_eq_false h2] at e2 HE
                  have HE2 := Lib.hid (show V = false from HE.out)
                  clear h1 h2
                  go_wp2
                  go_ret
                  exact ⟨by rw [HE2.out]; rfl, bt HB0.out HBR.out⟩
              · rw [decide_eq_false h1] at e1 HE
                have HE2 := Lib.hid (show V = false by rw [HE.out]; rfl)
                clear h1
                go_wp2
                go_ret
                exact ⟨by rw [HE2.out]; rfl, bt HB0.out HBR.out⟩
            · rw [if_neg hj0] at hdone
              have HE2 := Lib.hid (show V = false by rw [← HV.out, hdone]; rfl)
              have b0 : ((j2 : Int) == 0) = false := beq_eq_false_iff_ne.2 (by omega)
              clear hdone
              go_wp2
              go_ret
              exact ⟨by rw [HE2.out]; rfl, bt HB0.out HBR.out⟩
end Go.Proofs.YtlcdpbpbfofmmaaDoor

namespace Go.Proofs.YtlcdpbpbfofmmaaDoor
set_option maxRecDepth 100000
set_option linter.unusedVariables false
open Go.RowKit

/-- Is a proof accepted, by the document? -/
def tcheck (m n : Nat) (one two : List UInt8) (p : List (List UInt8)) : Bool :=
  if m = 0 then decide (p.length = 0) && decide (one = tnil)
  else (Cons.roots tnd [] m n true one p).2.2 && decide ((Cons.roots tnd [] m n true one p).1 = one) && decide ((Cons.roots tnd [] m n true one p).2.1 = two)
theorem tcheck_zero (n : Nat) (one two : List UInt8) (p : List (List UInt8)) : tcheck 0 n one two p = (decide (p.length = 0) && decide (one = tnil)) := by unfold tcheck; rw [if_pos rfl]
theorem tcheck_all {n : Nat} (hn : n ≠ 0) (one two : List UInt8) (p : List (List UInt8)) : tcheck n n one two p = (decide (p.length = 0) && decide (one = two)) := by
  unfold tcheck
  rw [if_neg hn, Cons.roots_whole]
  simp
theorem tcheck_mid {m n : Nat} (h1 : 1 ≤ m) (h2 : m < n) (one two : List UInt8) (p : List (List UInt8)) :
    tcheck m n one two p = decide (Cons.up tnd (Cons.U (m - 1) (n - 1)) (if m &&& (m - 1) = 0 then one :: p else p) = some (one, two)) := by
  have hu := Cons.roots_up tnd [] n m n true one p (Nat.le_refl _) h1 (by omega)
  rw [← Cons.U_ss n m n (Nat.le_refl _) h1 (by omega) (.inl h2), Bool.true_and] at hu
  have hiff : (Cons.allL (Cons.ss m n) = true) ↔ (m &&& (m - 1) = 0) := (Cons.allL_pow n m n (Nat.le_refl _) h1 h2).trans (Cons.and_pow m m (Nat.le_refl _) h1).symm
  rw [show (if Cons.allL (Cons.ss m n) = true then one :: p else p) = (if m &&& (m - 1) = 0 then one :: p else p) by
    by_cases h : m &&& (m - 1) = 0
    · rw [if_pos h, if_pos (hiff.2 h)]
    · rw [if_neg h, if_neg (fun g => h (hiff.1 g))]] at hu
  rw [hu]
  unfold tcheck
  rw [if_neg (by omega)]
  cases (Cons.roots tnd [] m n true one p).2.2 with
  | false => simp
  | true =>
    by_cases g1 : (Cons.roots tnd [] m n true one p).1 = one <;> by_cases g2 : (Cons.roots tnd [] m n true one p).2.1 = two <;> simp [g1, g2]
set_option maxRecDepth 100000 in
set_option maxHeartbeats 16000000 in
theorem accepted_any (m n : Nat) (one two : List UInt8) (A : Option Addr) (k c : Nat) (p : List (List UInt8)) (w : World) (h : Ss w A k c p) (h32 : ∀ s ∈ p, s.length = 32) (hmn : m ≤ n) (hn : n ≤ 1099511627776) (hk : k ≤ 900) (h1 : one.length = 32) (ht : Tabs w) :
    Calls Tryd.prog 71 #[.int .i64 (m : Int), .int .i64 (n : Int), sv one, sv two, .slice A k c] w (RetB (tcheck m n one two p) w) := by
  have hmx := h.max
  have hcap := h.cap
  rw [maxLen_eq] at hmx
  have hln := h.len
  have HS := Lib.hid h
  have HT := Lib.hid ht
  by_cases hm0 : m = 0
  · subst hm0
    rw [tcheck_zero, hln]
    obtain ⟨V, hV⟩ : ∃ V, (decide (k = 0) && decide (one = tnil)) = V := ⟨_, rfl⟩
    rw [hV]
    have SN := Lib.hid (sum_nil_any w ht)
    have e1 := strEq one (Sha.sum [])
    clear h ht h32 hln
    by_cases hk0 : k = 0
    · subst hk0
      by_cases he : one = Sha.sum []
      · rw [decide_eq_true he] at e1
        have HE := Lib.hid (show V = true by rw [← hV, decide_eq_true (show one = tnil from he)]; rfl)
        clear he hV
        go_enter Tryd.func71, Tryd.ntmps71
        go_wp2_with fail
        refine SN.out.mono ?_
        rintro e w1 ⟨rfl, hb1⟩
        have HB1 := Lib.hid hb1
        clear hb1
        go_wp2
        go_ret
        exact ⟨by rw [HE.out]; rfl, HB1.out⟩
      · rw [decide_eq_false he] at e1
        have HE := Lib.hid (show V = false by rw [← hV, decide_eq_false (show ¬ one = tnil from he)]; rfl)
        clear he hV
        go_enter Tryd.func71, Tryd.ntmps71
        go_wp2_with fail
        refine SN.out.mono ?_
        rintro e w1 ⟨rfl, hb1⟩
        have HB1 := Lib.hid hb1
        clear hb1
        go_wp2
        go_ret
        exact ⟨by rw [HE.out]; rfl, HB1.out⟩
    · have b0 : ((k : Int) == 0) = false := beq_eq_false_iff_ne.2 (by omega)
      have HE := Lib.hid (show V = false by rw [← hV, decide_eq_false hk0]; rfl)
      clear hV
      go_enter Tryd.func71, Tryd.ntmps71
      go_wp2
      go_ret
      exact ⟨by rw [HE.out]; rfl, Below.refl _ _⟩
  · have bm : ((m : Int) == 0) = false := beq_eq_false_iff_ne.2 (by omega)
    by_cases hmn2 : m = n
    · subst hmn2
      rw [tcheck_all hm0, hln]
      obtain ⟨V, hV⟩ : ∃ V, (decide (k = 0) && decide (one = two)) = V := ⟨_, rfl⟩
      rw [hV]
      have e1 := strEq one two
      have bmm : ((m : Int) == (m : Int)) = true := by simp
      clear h ht h32 hln
      by_cases hk0 : k = 0
      · subst hk0
        by_cases he : one = two
        · rw [decide_eq_true he] at e1
          have HE := Lib.hid (show V = true by rw [← hV, decide_eq_true he]; rfl)
          clear he hV
          go_enter Tryd.func71, Tryd.ntmps71
          go_wp2
          go_ret
          exact ⟨by rw [HE.out]; rfl, Below.refl _ _⟩
        · rw [decide_eq_false he] at e1
          have HE := Lib.hid (show V = false by rw [← hV, decide_eq_false he]; rfl)
          clear he hV
          go_enter Tryd.func71, Tryd.ntmps71
          go_wp2
          go_ret
          exact ⟨by rw [HE.out]; rfl, Below.refl _ _⟩
      · have b0 : ((k : Int) == 0) = false := beq_eq_false_iff_ne.2 (by omega)
        have HE := Lib.hid (show V = false by rw [← hV, decide_eq_false hk0]; rfl)
        clear hV
        go_enter Tryd.func71, Tryd.ntmps71
        go_wp2
        go_ret
        exact ⟨by rw [HE.out]; rfl, Below.refl _ _⟩
    · have bmn : ((m : Int) == (n : Int)) = false := beq_eq_false_iff_ne.2 (by omega)
      rw [tcheck_mid (by omega) (by omega)]
      obtain ⟨m', hm'⟩ : ∃ m', m' + 1 = m := ⟨m - 1, by omega⟩
      obtain ⟨n', hn'⟩ : ∃ n', n' + 1 = n := ⟨n - 1, by omega⟩
      have e1 : (m : Int) - 1 = (m' : Int) := by omega
      have e2 : (n : Int) - 1 = (n' : Int) := by omega
      have f1 := Bit.i64_and m m' (by omega) (by omega)
      rw [show m - 1 = m' by omega, show n - 1 = n' by omega]
      have hle : m' ≤ n' := by omega
      have hn40 : n' ≤ 1099511627776 := by omega
      obtain ⟨X, hX⟩ : ∃ X, m &&& m' = X := ⟨_, rfl⟩
      rw [hX] at f1 ⊢
      have H1 := Lib.hid h1
      have H32 := Lib.hid h32
      have HLN := Lib.hid hln
      clear hX hm' hn' h h32 ht h1 hln
      by_cases hX0 : X = 0
      · subst hX0
        rw [if_pos rfl]
        obtain ⟨V, hV⟩ : ∃ V, decide (Cons.up tnd (Cons.U m' n') (one :: p) = some (one, two)) = V := ⟨_, rfl⟩
        have hcc := fun (A : Option Addr) (k c : Nat) (W : World) (g : Ss W A k c (one :: p)) (g2 : k ≤ 1000) (g3 : Tabs W) => cclimb_any m' n' one two one A k c p W g (fun s hs => by
          rcases List.mem_cons.1 hs with rfl | hs
          · exact H1.out
          · exact H32.out s hs) hle hn40 g2 g3
        rw [hV] at hcc ⊢
        have HC := Lib.hid hcc
        have HB0 := Lib.hid (show Below w.heap.size w (w.alloc (.cells #[sv one] 9)) from (Below.refl _ w).alloc (Nat.le_refl _) _)
        clear hcc hV
        go_enter Tryd.func71, Tryd.ntmps71
        go_wp2_with (at_builtin; refine wl_appSS rfl (.tmp 40) (.tmp 41) rfl rfl (OwnS.one w one (Nat.le_refl _)) rfl (HS.out.keep HB0.out) (by omega) HB0.out.size ?_; intro A1 n1 c1 w1 ho1 hb1; have hn1 := ho1.len; rw [List.length_append, HLN.out] at hn1; simp only [List.length_cons, List.length_nil] at hn1; have b1 : ((n1 : Int) == 0) = false := beq_eq_false_iff_ne.2 (by omega))
        have hcap1 := ho1.cap
        have hmax1 := ho1.max
        rw [maxLen_eq] at hmax1
        have HB1 := Lib.hid (HB0.out.trans hb1)
        have HO1 := Lib.hid (show Ss w1 A1 n1 c1 (one :: p) from ho1.ss)
        have hn1' : n1 ≤ 1000 := by omega
        clear hb1 ho1 hn1
        go_wp2_with fail
        refine (HC.out A1 n1 c1 _ HO1.out hn1' (HT.out.below HB1.out)).mono ?_
        rintro e w2 ⟨rfl, hb2⟩
        have HB2 := Lib.hid (bt HB1.out hb2)
        clear hb2
        go_wp2
        go_ret
        exact ⟨rfl, HB2.out⟩
      · have bX : ((X : Int) == 0) = false := beq_eq_false_iff_ne.2 (by omega)
        rw [if_neg hX0]
        by_cases hk0 : k = 0
        · subst hk0
          have HE := Lib.hid (show decide (Cons.up tnd (Cons.U m' n') p = some (one, two)) = false by
            rw [List.length_eq_zero_iff.1 HLN.out]; rfl)
          go_enter Tryd.func71, Tryd.ntmps71
          go_wp2
          go_ret
          exact ⟨by rw [HE.out]; rfl, Below.refl _ _⟩
        · have b0 : ((k : Int) == 0) = false := beq_eq_false_iff_ne.2 (by omega)
          obtain ⟨y, q, hq⟩ : ∃ y q, p = y :: q := by
            cases hp : p with
            | nil => have := HLN.out; rw [hp] at this; simp at this; omega
            | cons y q => exact ⟨y, q, rfl⟩
          subst hq
          obtain ⟨V, hV⟩ : ∃ V, decide (Cons.up tnd (Cons.U m' n') (y :: q) = some (one, two)) = V := ⟨_, rfl⟩
          have hcc := cclimb_any m' n' one two y A k c q w HS.out H32.out hle hn40 (by omega) HT.out
          rw [hV] at hcc ⊢
          have HC := Lib.hid hcc
          clear hcc hV
          go_enter Tryd.func71, Tryd.ntmps71
          go_wp2_with fail
          refine HC.out.mono ?_
          rintro e w2 ⟨rfl, hb2⟩
          have HB2 := Lib.hid hb2
          clear hb2
          go_wp2
          go_ret
          exact ⟨rfl, HB2.out⟩
/-- What a call tells: a number. -/
def RetI (z : Int) (w : World) (e : Ending) (w' : World) : Prop := e = .returned (.int .i64 z) ∧ Below w.heap.size w w'
set_option maxRecDepth 100000 in
set_option maxHeartbeats 16000000 in
theorem ccheck_proof (m n : Nat) (one two : List UInt8) (A : Option Addr) (k c : Nat) (p : List (List UInt8)) (w : World) (hs : Ss w A k c p) (hwf : ∀ s ∈ p, s.length ≤ maxLen) (hmn : m ≤ n) (hn : n ≤ 1099511627776) (h1 : one.length = 32) (h2 : two.length = 32) (hno : Tree.all32 p = false) :
    Calls Tryd.prog 31 #[.int .i64 (m : Int), .int .i64 (n : Int), sv one, sv two, .slice A k c] w (RetI 6 w) := by
  have hm := hs.max
  have hcap := hs.cap
  rw [maxLen_eq] at hm
  have z1 := strLen one
  have z2 := strLen two
  rw [h1] at z1
  rw [h2] at z2
  have HW := Lib.hid hwf
  have HNO := Lib.hid hno
  have g1 : ¬ (m : Int) < 0 := by omega
  have g2 : ¬ (n : Int) < (m : Int) := by omega
  have g3 : ¬ (1099511627776 : Int) < (n : Int) := by omega
  clear hwf hno h1 h2
  go_enter Tryd.func31, Tryd.ntmps31
  go_wp2
  go_loopw [36] (fun vi wr => ∃ j : Nat, j ≤ k ∧ vi = .int .i64 j ∧ Hid (∀ i s, i < j → p[i]? = some s → s.length = 32) ∧ w = wr) (fun vi _ => k - (intOf vi).toNat)
  case atStart => exact ⟨0, by omega, rfl, Lib.hid (fun j s h => by omega), rfl⟩
  case round =>
    obtain ⟨j, hj, rfl, hr, rfl⟩ := hrel
    by_cases hlt : j < k
    · obtain ⟨b, off, rfl, hb, hcell, s, hks⟩ := hs.at hlt
      have x0 := hcell j s hks
      have hsl := HW.out s (mem_at hks)
      rw [maxLen_eq] at hsl
      have z := strLen s
      obtain ⟨q, hq⟩ : ∃ q, s.length = q := ⟨_, rfl⟩
      rw [hq] at hsl z
      have HQ := Lib.hid hq
      have HK := Lib.hid hks
      clear hcell hks hq
      by_cases hbig : ¬ q = 32
      · have b1 : ((q : Int) == 32) = false := beq_eq_false_iff_ne.2 (by omega)
        go_wp2
        go_ret
        exact ⟨rfl, Below.refl _ _⟩
      · have hnext := Lib.hid (show ∀ i s, i < j + 1 → p[i]? = some s → s.length = 32 from fun i t hj ht => by
          by_cases e : i = j
          · subst e
            have := HK.out
            rw [ht] at this
            injection this with this
            rw [this, HQ.out]; omega
          · exact hr.out i t (by omega) ht)
        have b1 : (q : Int) = 32 := by omega
        have b2 : ((q : Int) == 32) = true := by rw [b1]; rfl
        go_wp2
        go_roundw
        case rel => exact ⟨j + 1, by omega, by go_num, hnext, trivial⟩
        case measure => simp [intOf]; omega
    · exfalso
      obtain rfl : j = k := by omega
      have hall : ∀ s ∈ p, s.length = 32 := fun s hsm => by
        obtain ⟨i, hi, e⟩ := List.getElem_of_mem hsm
        exact hr.out i s (by have := hs.len; omega) (by rw [← e]; exact List.getElem?_eq_getElem hi)
      have := HNO.out
      rw [Tree.all32_iff.2 hall] at this
      cases this
set_option maxRecDepth 100000 in
set_option maxHeartbeats 16000000 in
theorem ccheck_all (m n : Nat) (one two : List UInt8) (A : Option Addr) (k c : Nat) (p : List (List UInt8)) (w : World) (hs : Ss w A k c p) (h32 : ∀ s ∈ p, s.length = 32) (hmn : m ≤ n) (hn : n ≤ 1099511627776) (hk9 : k ≤ 900) (h1 : one.length = 32) (h2 : two.length = 32) (ht : Tabs w) (V : Bool) (hV : tcheck m n one two p = V) (z : Int) (hz : z = if V then 0 else 6) :
    Calls Tryd.prog 31 #[.int .i64 (m : Int), .int .i64 (n : Int), sv one, sv two, .slice A k c] w (RetI z w) := by
  have hm := hs.max
  have hcap := hs.cap
  rw [maxLen_eq] at hm
  have z1 := strLen one
  have z2 := strLen two
  have hacc := accepted_any m n one two A k c p w hs h32 hmn hn hk9 h1 ht
  rw [hV] at hacc
  rw [h1] at z1
  rw [h2] at z2
  have HA := Lib.hid hacc
  have H32 := Lib.hid h32
  have g1 : ¬ (m : Int) < 0 := by omega
  have g2 : ¬ (n : Int) < (m : Int) := by omega
  have g3 : ¬ (1099511627776 : Int) < (n : Int) := by omega
  have HZ := Lib.hid hz
  clear h32 h1 h2 ht hacc hV hz
  go_enter Tryd.func31, Tryd.ntmps31
  go_wp2
  go_loopw [36] (fun vi wr => ∃ j : Nat, j ≤ k ∧ vi = .int .i64 j ∧ Below w.heap.size w wr ∧ w = wr) (fun vi _ => k - (intOf vi).toNat)
  case atStart => exact ⟨0, by omega, rfl, Below.refl _ _, rfl⟩
  case round =>
    obtain ⟨j, hj, rfl, _, rfl⟩ := hrel
    by_cases hlt : j < k
    · obtain ⟨b, off, rfl, hb, hcell, s, hks⟩ := hs.at hlt
      have x0 := hcell j s hks
      have z := strLen s
      rw [H32.out s (mem_at hks)] at z
      clear hcell hks
      go_wp2
      go_roundw
      case rel => exact ⟨j + 1, by omega, by go_num, Below.refl _ _, trivial⟩
      case measure => simp [intOf]; omega
    · obtain rfl : j = k := by omega
      cases V with
      | true =>
        go_wp2_with fail
        refine HA.out.mono ?_
        rintro e w2 ⟨rfl, hb2⟩
        have HB2 := Lib.hid hb2
        clear hb2
        go_wp2
        go_ret
        exact ⟨by rw [HZ.out]; rfl, HB2.out⟩
      | false =>
        go_wp2_with fail
        refine HA.out.mono ?_
        rintro e w2 ⟨rfl, hb2⟩
        have HB2 := Lib.hid hb2
        clear hb2
        go_wp2
        go_ret
        exact ⟨by rw [HZ.out]; rfl, HB2.out⟩
end Go.Proofs.YtlcdpbpbfofmmaaDoor
