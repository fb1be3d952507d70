/- The reference's Root; Root and Range of the tree; cuts of lists of digests. No statement of the seat is proved here. -/
import Derived.Test.YtoiilhbjlfdfpaaDoorTree3
namespace Go.Proofs.YtoiilhbjlfdfpaaDoor
set_option linter.unusedVariables false
open Go.RowKit

section
variable {w : World} {A : Option Addr} {n c : Nat} {l : List (List UInt8)}
theorem run_cutS_hi (h : Ss w A n c l) (k : Nat) (hk : k ≤ n) :
    ∃ A', (Instr.sliceAt 22 (.slice A n c) none (some (.int .i64 (k : Int))) none).run Tryd.prog w = .ok (.slice A' k c) w ∧ Ss w A' k c (l.take k) := by
  have hu' : Tryd.prog.underlying 22 = some (.slice (Tryd.prog.elem 22)) := by kernel_rfl
  have hr1 := run_slice_h (P := Tryd.prog) w 22 A n c hu' .i64 (k : Int) (by omega) (by have := h.cap; omega)
  rw [show Tryd.prog.elem 22 = 9 by kernel_rfl, run_sizeOf_of 9 1 (by kernel_rfl), Result.andThen_ok] at hr1
  refine ⟨_, by rw [run_sliceAt_slice w 22 _ _ _ _ hu', hr1]; simp only [Int.toNat_natCast]; rfl, ?_, by rw [List.length_take, h.len]; omega, Nat.le_trans hk h.cap, h.max⟩
  rw [List.map_take]
  split
  · exact h.rd.take _
  · have := (h.rd.take k).drop 0
    simpa using this
theorem run_cutS_lo (h : Ss w A n c l) (k : Nat) (hk : k ≤ n) :
    ∃ A', (Instr.sliceAt 22 (.slice A n c) (some (.int .i64 (k : Int))) none none).run Tryd.prog w = .ok (.slice A' (n - k) (c - k)) w ∧ Ss w A' (n - k) (c - k) (l.drop k) := by
  have hu' : Tryd.prog.underlying 22 = some (.slice (Tryd.prog.elem 22)) := by kernel_rfl
  have hcut := rd_cut (i := k) h.rd (by rw [List.length_map]; exact h.len) h.cap
  have hr1 := run_slice_l (P := Tryd.prog) w 22 A n c hu' .i64 (k : Int) (by omega) (by omega)
  rw [show Tryd.prog.elem 22 = 9 by kernel_rfl, run_sizeOf_of 9 1 (by kernel_rfl), Result.andThen_ok] at hr1
  refine ⟨_, by rw [run_sliceAt_slice w 22 _ _ _ _ hu', hr1]; simp only [Int.toNat_natCast]; rfl, ?_, by rw [List.length_drop, h.len], by have := h.cap; omega, by have := h.max; omega⟩
  rw [List.map_drop]
  exact hcut
theorem run_cutS_lh (h : Ss w A n c l) (i j : Nat) (hi : i ≤ j) (hj : j ≤ n) :
    ∃ A', (Instr.sliceAt 22 (.slice A n c) (some (.int .i64 (i : Int))) (some (.int .i64 (j : Int))) none).run Tryd.prog w = .ok (.slice A' (j - i) (c - i)) w ∧ Ss w A' (j - i) (c - i) ((l.take j).drop i) := by
  have hu' : Tryd.prog.underlying 22 = some (.slice (Tryd.prog.elem 22)) := by kernel_rfl
  have hcut := rd_cut (i := i) (h.rd.take j) (n := j) (by rw [List.length_take, List.length_map, h.len]; omega) (by have := h.cap; omega : j ≤ c)
  have hr1 := run_slice_lh (P := Tryd.prog) w 22 A n c hu' .i64 .i64 (i : Int) (j : Int) (by omega) (by omega) (by have := h.cap; omega)
  rw [show Tryd.prog.elem 22 = 9 by kernel_rfl, run_sizeOf_of 9 1 (by kernel_rfl), Result.andThen_ok] at hr1
  refine ⟨_, by rw [run_sliceAt_slice w 22 _ _ _ _ hu', hr1]; simp only [Int.toNat_natCast]; rfl, ?_, by rw [List.length_drop, List.length_take, h.len]; omega, by have := h.cap; omega, by have := h.max; omega⟩
  rw [List.map_drop, List.map_take]
  exact hcut
end
section
variable {ops : Array Oper} {rest : List Oper} {o : Oper} {a : Act} {Q : Exit → Act → World → Prop} {w : World} {A : Option Addr} {n c : Nat} {l : List (List UInt8)}
theorem wl_sl (hgd : o.guard = none) (T : TypeId) (x : Operand) (lo hi : Option Operand) (ho : o.op = .slice T x lo hi none) {cx v : Value} {clo chi : Option Value} (hx : a.eval x = cx) (hlo : lo.map a.eval = clo) (hhi : hi.map a.eval = chi)
    (hr : (Instr.sliceAt T cx clo chi none).run Tryd.prog w = .ok v w) (h : wpList Tryd.prog ops Q rest (a.put o.dst v) w) : wpList Tryd.prog ops Q (o :: rest) a w :=
  wl_of_wp hgd fun _ hK => by
    unfold Oper.wp execOp
    simp only [ho, Sem.run_bind, Sem.run_pure, Option.map_none, hx, hlo, hhi, hr, Result.andThen_ok]
    exact hK _ _ h
theorem wl_cutS_hi (hgd : o.guard = none) (x hi : Operand) (ho : o.op = .slice 22 x none (some hi) none) (hx : a.eval x = .slice A n c) (h1 : Ss w A n c l) (k : Nat) (hhi : a.eval hi = .int .i64 (k : Int)) (hk : k ≤ n)
    (h : ∀ A', Ss w A' k c (l.take k) → wpList Tryd.prog ops Q rest (a.put o.dst (.slice A' k c)) w) : wpList Tryd.prog ops Q (o :: rest) a w := by
  obtain ⟨A', hr, hs⟩ := run_cutS_hi h1 k hk
  exact wl_sl hgd _ x none (some hi) ho hx rfl (congrArg some hhi) hr (h A' hs)
theorem wl_cutS_lo (hgd : o.guard = none) (x lo : Operand) (ho : o.op = .slice 22 x (some lo) none none) (hx : a.eval x = .slice A n c) (h1 : Ss w A n c l) (k : Nat) (hlo : a.eval lo = .int .i64 (k : Int)) (hk : k ≤ n)
    (h : ∀ A', Ss w A' (n - k) (c - k) (l.drop k) → wpList Tryd.prog ops Q rest (a.put o.dst (.slice A' (n - k) (c - k))) w) : wpList Tryd.prog ops Q (o :: rest) a w := by
  obtain ⟨A', hr, hs⟩ := run_cutS_lo h1 k hk
  exact wl_sl hgd _ x (some lo) none ho hx (congrArg some hlo) rfl hr (h A' hs)
theorem wl_cutS_lh (hgd : o.guard = none) (x lo hi : Operand) (ho : o.op = .slice 22 x (some lo) (some hi) none) (hx : a.eval x = .slice A n c) (h1 : Ss w A n c l) (i j : Nat) (hlo : a.eval lo = .int .i64 (i : Int)) (hhi : a.eval hi = .int .i64 (j : Int)) (hi' : i ≤ j) (hj : j ≤ n)
    (h : ∀ A', Ss w A' (j - i) (c - i) ((l.take j).drop i) → wpList Tryd.prog ops Q rest (a.put o.dst (.slice A' (j - i) (c - i))) w) : wpList Tryd.prog ops Q (o :: rest) a w := by
  obtain ⟨A', hr, hs⟩ := run_cutS_lh h1 i j hi' hj
  exact wl_sl hgd _ x (some lo) (some hi) ho hx (congrArg some hlo) (congrArg some hhi) hr (h A' hs)
end
theorem all_take {l : List (List UInt8)} (h : ∀ s ∈ l, s.length = 32) (k : Nat) : ∀ s ∈ l.take k, s.length = 32 := fun s hs => h s (List.mem_of_mem_take hs)
theorem all_drop {l : List (List UInt8)} (h : ∀ s ∈ l, s.length = 32) (k : Nat) : ∀ s ∈ l.drop k, s.length = 32 := fun s hs => h s (List.mem_of_mem_drop hs)
set_option maxRecDepth 100000 in
set_option maxHeartbeats 8000000 in
theorem rroot_any : ∀ (q : Nat) (A : Option Addr) (n c : Nat) (l : List (List UInt8)) (w : World), n ≤ q → Ss w A n c l → (∀ s ∈ l, s.length = 32) → n ≤ 1000000 → Calls Tryd.prog 29 #[.slice A n c] w (StrPost (troot l) w)
  | q, A, n, c, l, w, hq, h, h32, hn => by
    have hm := h.max
    have hcap := h.cap
    rw [maxLen_eq] at hm
    have HLN := Lib.hid h.len
    have H32 := Lib.hid h32
    clear h32
    by_cases h0 : n = 0
    · subst h0
      have HE := Lib.hid (show troot l = tnil by
        have : l = [] := List.length_eq_zero_iff.1 HLN.out
        rw [this]; exact Tree.root_nil _ _)
      clear h
      go_enter Tryd.func29, Tryd.ntmps29
      go_wp2_with fail
      refine (rsum_any none 0 0 [] w Rd.nil rfl (Nat.le_refl _) (by decide) (by omega)).mono ?_
      rintro e w1 ⟨rfl, hb1⟩
      go_wp2
      go_ret
      exact ⟨by rw [HE.out]; rfl, hb1⟩
    · by_cases h1 : n = 1
      · subst h1
        obtain ⟨b, off, rfl, hbb, hcell, x, hx⟩ := h.at (k := 0) (by omega)
        have x0 : w.cell? ⟨b, off, none⟩ = some (sv x) := hcell 0 x hx
        have HE := Lib.hid (show troot l = x from Tree.root_len1 _ _ HLN.out hx)
        clear hcell hx
        go_enter Tryd.func29, Tryd.ntmps29
        go_wp2
        go_ret
        exact ⟨by rw [HE.out]; rfl, Below.refl _ _⟩
      · have b0 : ((n : Int) == 0) = false := beq_eq_false_iff_ne.2 (by omega)
        have b1 : ((n : Int) == 1) = false := beq_eq_false_iff_ne.2 (by omega)
        have h2 : 2 ≤ n := by omega
        match q, hq with
        | 0, hq => omega
        | q + 1, hq =>
        obtain ⟨k0, hk⟩ : ∃ k0, Tree.sp n = k0 := ⟨_, rfl⟩
        have kp := Tree.sp_pos h2
        have kl := Tree.sp_lt h2
        rw [hk] at kp kl
        have hk0 : k0 ≤ n := by omega
        have HE := Lib.hid (show troot l = tnd (troot (l.take k0)) (troot (l.drop k0)) by
          unfold troot
          rw [Tree.root_two tnd tnil (by rw [HLN.out]; exact h2), HLN.out, hk])
        have HSP := Lib.hid (show Tree.spz (n : Int) = k0 by rw [Tree.spz_in h2 (by omega), hk])
        have HSS := Lib.hid (show ∀ W, Below w.heap.size w W → Ss W A n c l from fun W hW => h.keep hW)
        have HLT := Lib.hid (show (l.take k0).length = k0 ∧ (l.drop k0).length = n - k0 by rw [List.length_take, List.length_drop, HLN.out]; omega)
        have HTK := Lib.hid (all_take H32.out k0)
        have HDR := Lib.hid (all_drop H32.out k0)
        have HLL := Lib.hid (show (troot (l.take k0)).length ≤ 100000 ∧ (troot (l.drop k0)).length ≤ 100000 by rw [troot_len HTK.out, troot_len HDR.out]; omega)
        have IH := Lib.hid (show ∀ (A' : Option Addr) (n' c' : Nat) (l' : List (List UInt8)) (W : World), (∀ s ∈ l', s.length = 32) → Ss W A' n' c' l' ∧ (n' ≤ q ∧ n' ≤ 1000000) → Calls Tryd.prog 29 #[.slice A' n' c'] W (StrPost (troot l') W) from fun A' n' c' l' W g1 g2 => rroot_any q A' n' c' l' W g2.2.1 g2.1 g1 g2.2.2)
        have hkq : (k0 ≤ q ∧ k0 ≤ 1000000) ∧ (n - k0 ≤ q ∧ n - k0 ≤ 1000000) := by omega
        have HKQ := Lib.hid hkq
        clear hk h hkq
        go_enter Tryd.func29, Tryd.ntmps29
        go_wp2_with fail
        refine (rsplit_any (n : Int) w (by omega) (by omega)).mono ?_
        rintro e w1 ⟨rfl, rfl⟩
        rw [HSP.out]
        go_wp2_with fail
        refine Free.wp_free_l 10 (fun W => Below w.heap.size w W) [Free.kc (.slice A n c), Free.kc (.int .i64 (k0 : Int)), Free.kr (k0) ((l.take k0).map sv), Free.kc (sv (troot (l.take k0))), Free.kc (.slice A n c), Free.kc (.int .i64 (k0 : Int)), Free.kr (n - k0) ((l.drop k0).map sv), Free.kc (sv (troot (l.drop k0))), Free.kc (sv (tnd (troot (l.take k0)) (troot (l.drop k0)))), Free.kc (sv (tnd (troot (l.take k0)) (troot (l.drop k0))))] (by kernel_rfl) (by kernel_rfl) (by decide) (Below.refl _ _).drew (fun w w' h g => bt h g) ?_ ?_
        · refine Free.forall_succ (Free.forall_succ (Free.forall_succ (Free.forall_succ (Free.forall_succ (Free.forall_succ (Free.forall_succ (Free.forall_succ (Free.forall_succ (Free.forall_succ (Free.forall_zero) ?_) ?_) ?_) ?_) ?_) ?_) ?_) ?_) ?_) ?_
          · exact Free.ob_plain _ rfl rfl fun vals wq hC hd => (by exact Free.d_move rfl (by kernel_rfl) rfl)
          · exact Free.ob_plain _ rfl rfl fun vals wq hC hd => (by exact Free.d_move rfl (by kernel_rfl) rfl)
          · exact Free.ob_plain _ rfl rfl fun vals wq hC hd => (by exact (by obtain ⟨A', hrun, hss⟩ := run_cutS_hi (HSS.out wq hC) k0 hk0; exact Free.d_slice rfl (Eq.trans (b := vals 0) (by kernel_rfl) (hd 0 (by kernel_rfl))) rfl (show _ = some (Value.int .i64 (k0 : Int)) from congrArg some (Eq.trans (b := vals 1) (by kernel_rfl) (hd 1 (by kernel_rfl)))) rfl hrun ⟨A', c, rfl, hss.rd, hss.cap, hss.max⟩))
          · exact Free.ob_plain _ rfl rfl fun vals wq hC hd => (by obtain ⟨A2, k2, e2, rd2, le2, mx2⟩ := hd 2 (by kernel_rfl); exact Free.d_call Tryd.func29 (by kernel_rfl) (by kernel_rfl) rfl rfl (Free.arg1 (Eq.trans (b := vals 2) (by kernel_rfl) e2)) ((IH.out A2 _ k2 _ wq HTK.out ⟨⟨rd2, HLT.out.1, le2, mx2⟩, HKQ.out.1⟩).mono fun e w2 h => ⟨_, h.1, rfl, h.2⟩))
          · exact Free.ob_plain _ rfl rfl fun vals wq hC hd => (by exact Free.d_move rfl (by kernel_rfl) rfl)
          · exact Free.ob_plain _ rfl rfl fun vals wq hC hd => (by exact Free.d_move rfl (by kernel_rfl) rfl)
          · exact Free.ob_plain _ rfl rfl fun vals wq hC hd => (by exact (by obtain ⟨A', hrun, hss⟩ := run_cutS_lo (HSS.out wq hC) k0 hk0; exact Free.d_slice rfl (Eq.trans (b := vals 4) (by kernel_rfl) (hd 4 (by kernel_rfl))) (show _ = some (Value.int .i64 (k0 : Int)) from congrArg some (Eq.trans (b := vals 5) (by kernel_rfl) (hd 5 (by kernel_rfl)))) rfl rfl hrun ⟨A', c - k0, rfl, hss.rd, hss.cap, hss.max⟩))
          · exact Free.ob_plain _ rfl rfl fun vals wq hC hd => (by obtain ⟨A6, k6, e6, rd6, le6, mx6⟩ := hd 6 (by kernel_rfl); exact Free.d_call Tryd.func29 (by kernel_rfl) (by kernel_rfl) rfl rfl (Free.arg1 (Eq.trans (b := vals 6) (by kernel_rfl) e6)) ((IH.out A6 _ k6 _ wq HDR.out ⟨⟨rd6, HLT.out.2, le6, mx6⟩, HKQ.out.2⟩).mono fun e w2 h => ⟨_, h.1, rfl, h.2⟩))
          · exact Free.ob_plain _ rfl rfl fun vals wq hC hd => (by exact Free.d_call Tryd.func47 (by kernel_rfl) (by kernel_rfl) rfl rfl (Free.arg2 (Eq.trans (b := vals 3) (by kernel_rfl) (hd 3 (by kernel_rfl))) (Eq.trans (b := vals 7) (by kernel_rfl) (hd 7 (by kernel_rfl)))) ((rnode_any _ _ wq HLL.out.1 HLL.out.2).mono fun e w2 h => ⟨_, h.1, rfl, h.2⟩))
          · exact Free.ob_plain _ rfl rfl fun vals wq hC hd => (by exact Free.d_assign rfl (Eq.trans (b := vals 8) (by kernel_rfl) (hd 8 (by kernel_rfl))) rfl)
        · intro vals wq hC hd
          have e0 : vals 0 = (.slice A n c) := hd 0 (by decide)
          have e1 : vals 1 = (.int .i64 (k0 : Int)) := hd 1 (by decide)
          obtain ⟨A2, k2, e2, rd2, le2, mx2⟩ := hd 2 (by decide)
          have e3 : vals 3 = (sv (troot (l.take k0))) := hd 3 (by decide)
          have e4 : vals 4 = (.slice A n c) := hd 4 (by decide)
          have e5 : vals 5 = (.int .i64 (k0 : Int)) := hd 5 (by decide)
          obtain ⟨A6, k6, e6, rd6, le6, mx6⟩ := hd 6 (by decide)
          have e7 : vals 7 = (sv (troot (l.drop k0))) := hd 7 (by decide)
          have e8 : vals 8 = (sv (tnd (troot (l.take k0)) (troot (l.drop k0)))) := hd 8 (by decide)
          have e9 : vals 9 = (sv (tnd (troot (l.take k0)) (troot (l.drop k0)))) := hd 9 (by decide)
          simp only [Free.frameOf, List.range, List.range.loop, List.foldl, Free.dstOf, List.getElem?_toArray, List.getElem?_cons_zero, List.getElem?_cons_succ, Option.bind_some, Act.put, List.setIfInBounds_toArray, List.set_cons_zero, List.set_cons_succ, e0, e1, e2, e3, e4, e5, e6, e7, e8, e9]
          refine wpList_nil ?_
          clear hd e0 e1 e2 e3 e4 e5 e6 e7 e8 e9
          have HB := Lib.hid hC
          clear hC
          go_wp2
          go_ret
          exact ⟨by rw [HE.out]; rfl, HB.out⟩
theorem Root_any (A : Option Addr) (n c : Nat) (l : List (List UInt8)) (w : World) (h : Ss w A n c l) (h32 : ∀ s ∈ l, s.length = 32) (hn : n ≤ 1000000) (ht : Tabs w) :
    Calls Tryd.prog 25 #[.slice A n c] w fun e w' => e = .returned (.tuple #[sv (troot l), .int .i64 0]) ∧ Below w.heap.size w w' := by
  have hd := digests_any A n c l w h (fun s hs => by rw [h32 s hs]; decide)
  rw [Tree.all32_iff.2 h32] at hd
  have HD := Lib.hid hd
  have HR := Lib.hid (root_any A n c l w h h32 hn ht)
  clear hd h h32 ht
  go_enter Tryd.func25, Tryd.ntmps25
  go_wp2_with fail
  refine HD.out.mono ?_
  rintro e w1 ⟨rfl, rfl⟩
  go_wp2_with fail
  refine HR.out.mono ?_
  rintro e w2 ⟨rfl, hb⟩
  go_wp2
  go_ret2
  exact ⟨rfl, hb⟩
theorem Root_no (A : Option Addr) (n c : Nat) (l : List (List UInt8)) (w : World) (h : Ss w A n c l) (hwf : ∀ s ∈ l, s.length ≤ maxLen) (hno : Tree.all32 l = false) :
    Calls Tryd.prog 25 #[.slice A n c] w fun e w' => e = .returned (.tuple #[sv [], .int .i64 1]) ∧ w = w' := by
  have hd := digests_any A n c l w h hwf
  rw [hno] at hd
  have HD := Lib.hid hd
  clear hd h hwf hno
  go_enter Tryd.func25, Tryd.ntmps25
  go_wp2_with fail
  refine HD.out.mono ?_
  rintro e w1 ⟨rfl, rfl⟩
  go_wp2
  go_ret2
  exact ⟨rfl, rfl⟩
end Go.Proofs.YtoiilhbjlfdfpaaDoor
