/- MTreeB: several texts of this claim in one file. No statement of the seat is proved here. -/
import Derived.Test.YteoledjllpgcbaaGreatDoorMTreeA
import Derived.Test.YteoledjllpgcbaaGreatDoorMTreeP
namespace Go.Proofs.YteoledjllpgcbaaGreatDoor
set_option maxRecDepth 100000
set_option maxHeartbeats 64000000
set_option linter.unusedVariables false
open Go.RowKit
def Free.kO (B : Nat) (l : List (List UInt8)) : Free.SV := ⟨fun v w => ∃ A n c, v = .slice A n c ∧ OwnS w B A n c l, fun v w w' ⟨A, n, c, h1, h2⟩ g => ⟨A, n, c, h1, h2.keep g⟩⟩
section
variable {ops : Array Oper} {rest : List Oper} {o : Oper} {a : Act} {Q : Exit → Act → World → Prop} {w : World}
theorem wl_appSS (hgd : o.guard = none) (s x : Operand) (ho : o.op = .call { callee := .builtin .append, args := #[s, x], argTypes := #[27, 27] })
  {B : Nat} {A : Option Addr} {n c : Nat} {l : List (List UInt8)} (hs : a.eval s = .slice A n c) (h1 : OwnS w B A n c l)
  {A2 : Option Addr} {m c2 : Nat} {l2 : List (List UInt8)} (hx : a.eval x = .slice A2 m c2) (h2 : Ss w A2 m c2 l2) (hsz : n + m ≤ 1000000000000) (hB : B ≤ w.heap.size)
  (h : ∀ A' n' c' w', OwnS w' B A' n' c' (l ++ l2) → Below B w w' → wpList Tryz.prog ops Q rest (a.put o.dst (.slice A' n' c')) w') : wpList Tryz.prog ops Q (o :: rest) a w :=
 wl_app hgd s x 27 ho B 9 1 16 strsT _ n _ hs h1.own w.heap.size A2 m c2 (l2.map sv) hx h2.rd (by simpa using h2.len) (one_s _) (by rw [maxLen_eq]; omega) (by omega) hB fun A' c' w' g1 g2 _ g4 g5 g6 =>
  h A' (n + m) c' w' ⟨by rw [← List.map_append] at g1; exact g1, by rw [List.length_append, h1.len, h2.len], g5, g6⟩ g4
end
abbrev tpath (l : List (List UInt8)) (i : Nat) : List (List UInt8) := Tree.path tnd tnil l i
theorem tpath_all {l : List (List UInt8)} (h : ∀ s ∈ l, s.length = 32) (i : Nat) : ∀ s ∈ tpath l i, s.length = 32 := Tree.path_all tnd tnil (fun s => s.length = 32) (fun l h => troot_len h) l.length l i (Nat.le_refl _) h
theorem tpath_len {l : List (List UInt8)} {i : Nat} (h : i < l.length) : (tpath l i).length ≤ 2 * l.length := by
 rw [Tree.path_len tnd tnil l.length l i (Nat.le_refl _) h]
 exact Tree.sides_len _ _ _ (Nat.le_refl _) h
theorem rpath_any : ∀ (q : Nat) (A : Option Addr) (n c : Nat) (l : List (List UInt8)) (i : Nat) (w : World), n ≤ q → Ss w A n c l → (∀ s ∈ l, s.length = 32) → n ≤ 1000 → i < n → Calls Tryz.prog 40 #[.slice A n c, .int .i64 (i : Int)] w (OwnSPost w.heap.size (tpath l i) w)
 | q, A, n, c, l, i, w, hq, h, h32, hn, hi => by
  have hm := h.max
  have hcap := h.cap
  rw [maxLen_eq] at hm
  have HLN := Lib.hid h.len
  have H32 := Lib.hid h32
  clear h32
  by_cases h1 : n = 1
  ·
   subst h1
   have HE := Lib.hid (show tpath l i = [] from Tree.path_small _ _ (by rw [HLN.out]; omega))
   clear h
   go_enter Tryz.func40, Tryz.ntmps40
   go_wp2
   go_ret
   exact ⟨none, 0, 0, rfl, by rw [HE.out]; exact OwnS.nil _ _, Below.refl _ _⟩
  ·
   have b1 : ((n : Int) == 1) = false := beq_eq_false_iff_ne.2 (by omega)
   have h2 : 2 ≤ n := by omega
   match q, hq with
   | 0, hq => omega
   | q + 1, hq =>
   obtain ⟨k0, hk⟩ : ∃ k0, Tree.sp n = k0 := ⟨_, rfl⟩
   have kp := Tree.sp_pos h2
   have kl := Tree.sp_lt h2
   rw [hk] at kp kl
   have hk0 : k0 ≤ n := by omega
   have HSP := Lib.hid (show Tree.spz (n : Int) = k0 by rw [Tree.spz_in h2 (by omega), hk])
   have HSS := Lib.hid (show ∀ W, Below w.heap.size w W → Ss W A n c l from fun W hW => h.keep hW)
   have HLT := Lib.hid (show (l.take k0).length = k0 ∧ (l.drop k0).length = n - k0 by rw [List.length_take, List.length_drop, HLN.out]; omega)
   have HTK := Lib.hid (all_take H32.out k0)
   have HDR := Lib.hid (all_drop H32.out k0)
   have IH := Lib.hid (show ∀ (A' : Option Addr) (n' c' : Nat) (l' : List (List UInt8)) (i' : Nat) (W : World), (∀ s ∈ l', s.length = 32) → Ss W A' n' c' l' → (n' ≤ q ∧ n' ≤ 1000) → i' < n' → Calls Tryz.prog 40 #[.slice A' n' c', .int .i64 (i' : Int)] W (OwnSPost W.heap.size (tpath l' i') W) from fun A' n' c' l' i' W g1 g2 g3 g4 => rpath_any q A' n' c' l' i' W g3.1 g2 g1 g3.2 g4)
   unfold OwnSPost at IH
   have hkq : (k0 ≤ q ∧ k0 ≤ 1000) ∧ (n - k0 ≤ q ∧ n - k0 ≤ 1000) := by omega
   have HKQ := Lib.hid hkq
   have HSPN := Lib.hid hk
   clear hk h hkq
   by_cases hlt : i < k0
   ·
    have HE := Lib.hid (show tpath l i = tpath (l.take k0) i ++ [troot (l.drop k0)] by
     have := Tree.path_left tnd tnil (l := l) (i := i) (by rw [HLN.out]; exact h2) (by rw [HLN.out, HSPN.out]; exact hlt)
     rw [HLN.out, HSPN.out] at this
     exact this)
    have HPL := Lib.hid (show (tpath (l.take k0) i).length ≤ 2000 by have := tpath_len (l := l.take k0) (i := i) (by rw [HLT.out.1]; exact hlt); rw [HLT.out.1] at this; omega)
    have hci : (i : Int) < (k0 : Int) := by omega
    go_enter Tryz.func40, Tryz.ntmps40
    go_wp2_with fail
    refine (rsplit_any (n : Int) w (by omega) (by omega)).mono ?_
    rintro e w1 ⟨rfl, rfl⟩
    rw [HSP.out]
    go_wp2_with fail
    refine Free.wp_free_l 10 (fun W => Below w.heap.size w W) [Free.kc (.slice A n c), Free.kc (.int .i64 (k0 : Int)), Free.kr (k0) ((l.take k0).map sv), Free.kc (.int .i64 (i : Int)), Free.kO (w.heap.size) (tpath (l.take k0) i), Free.kc (.slice A n c), Free.kc (.int .i64 (k0 : Int)), Free.kr (n - k0) ((l.drop k0).map sv), Free.kc (sv (troot (l.drop k0))), Free.kr (1) ([sv (troot (l.drop k0))])] (by kernel_rfl) (by kernel_rfl) (by decide) (Below.refl _ _).drew (fun w w' h g => bt h g) ?_ ?_
    ·
     iterate 10 refine Free.forall_succ ?_ ?_
     all_goals first | exact Free.forall_zero | (refine Free.op fun vals wq hC hd => ?_) | skip
     · exact Free.dm
     · exact Free.dm
     · obtain ⟨A', hrun, hss⟩ := run_cutS_hi (HSS.out wq hC) k0 hk0; exact Free.d_slice rfl (Free.tr 0 hd) rfl (show _ = some (Value.int .i64 (k0 : Int)) from congrArg some (Free.tr 1 hd)) rfl hrun ⟨A', c, rfl, hss.rd, hss.cap, hss.max⟩
     · exact Free.dm
     · obtain ⟨A2, k2, e2, rd2, le2, mx2⟩ := hd 2 (by kernel_rfl); exact Free.d_call Tryz.func40 (by kernel_rfl) (by kernel_rfl) rfl rfl (Free.arg2 (Eq.trans (b := vals 2) (by kernel_rfl) e2) (Free.tr 3 hd)) ((IH.out A2 _ k2 (l.take k0) i wq HTK.out ⟨rd2, HLT.out.1, le2, mx2⟩ HKQ.out.1 (by omega)).mono fun e w2 h => (by obtain ⟨A1, n1, c1, he, ho, hb⟩ := h; exact ⟨_, he, ⟨A1, n1, c1, rfl, ho.base hC.size⟩, hb⟩))
     · exact Free.dm
     · exact Free.dm
     · obtain ⟨A', hrun, hss⟩ := run_cutS_lo (HSS.out wq hC) k0 hk0; exact Free.d_slice rfl (Free.tr 5 hd) (show _ = some (Value.int .i64 (k0 : Int)) from congrArg some (Free.tr 6 hd)) rfl rfl hrun ⟨A', c - k0, rfl, hss.rd, hss.cap, hss.max⟩
     · obtain ⟨A7, k7, e7, rd7, le7, mx7⟩ := hd 7 (by kernel_rfl); exact Free.d_call Tryz.func64 (by kernel_rfl) (by kernel_rfl) rfl rfl (Free.arg1 (Eq.trans (b := vals 7) (by kernel_rfl) e7)) ((rroot_any _ A7 _ k7 (l.drop k0) wq (Nat.le_refl _) ⟨rd7, HLT.out.2, le7, mx7⟩ HDR.out (by omega)).mono fun e w2 h => ⟨_, h.1, rfl, h.2⟩)
     · exact Free.d_build (w' := wq.alloc (.cells ([sv (troot (l.drop k0))] : List Value).toArray 9)) rfl (Free.parts1 (Free.tr 8 hd)) (by go_simp) ((Below.refl _ _).alloc (Nat.le_refl _) _) ⟨_, _, rfl, (rd_new wq [_] _ _).more (by unfold World.alloc; simp), Nat.le_refl _, by rw [maxLen_eq]; omega⟩
    ·
     intro vals wq hC hd
     refine Free.go hd ?_
     rintro _ rfl _ rfl _ ⟨A2, k2, rfl, rd2, le2, mx2⟩ _ rfl _ ⟨A4, n4, k4, rfl, ow4⟩ _ rfl _ rfl _ ⟨A7, k7, rfl, rd7, le7, mx7⟩ _ rfl _ ⟨A9, k9, rfl, rd9, le9, mx9⟩
     simp only [Free.All, Free.fl, Act.put, Free.sa, Free.s0, Free.s1]
     clear hd
     have hs1 : Ss wq A9 1 k9 [troot (l.drop k0)] := ⟨rd9, rfl, le9, mx9⟩
     have HB := Lib.hid hC
     have hnp : n4 ≤ 2000 := by rw [← ow4.len]; exact HPL.out
     clear hC rd9
     refine wl_appSS rfl (.tmp 19) (.tmp 24) rfl rfl ow4 rfl hs1 (by omega) HB.out.size ?_
     intro A' n' c' w' ho' hb'
     simp only [Act.put, List.setIfInBounds_toArray, List.set_cons_succ, List.set_cons_zero]
     go_wp2_with fail
     go_ret
     exact ⟨A', n', c', rfl, by rw [HE.out]; exact ho', HB.out.trans hb'⟩
   ·
    obtain ⟨j, hj⟩ : ∃ j, j + k0 = i := ⟨i - k0, by omega⟩
    have HE := Lib.hid (show tpath l i = tpath (l.drop k0) j ++ [troot (l.take k0)] by
     have := Tree.path_right tnd tnil (l := l) (i := i) (by rw [HLN.out]; exact h2) (by rw [HLN.out, HSPN.out]; exact hlt)
     rw [HLN.out, HSPN.out, show i - k0 = j by omega] at this
     exact this)
    have hjn : j < n - k0 := by omega
    have HPL := Lib.hid (show (tpath (l.drop k0) j).length ≤ 2000 by have := tpath_len (l := l.drop k0) (i := j) (by rw [HLT.out.2]; exact hjn); rw [HLT.out.2] at this; omega)
    have hci : ¬ (i : Int) < (k0 : Int) := by omega
    have hci2 : (k0 : Int) ≤ (i : Int) := by omega
    go_enter Tryz.func40, Tryz.ntmps40
    go_wp2_with fail
    refine (rsplit_any (n : Int) w (by omega) (by omega)).mono ?_
    rintro e w1 ⟨rfl, rfl⟩
    rw [HSP.out]
    go_wp2_with fail
    refine Free.wp_free_l 12 (fun W => Below w.heap.size w W) [Free.kc (.slice A n c), Free.kc (.int .i64 (k0 : Int)), Free.kr (n - k0) ((l.drop k0).map sv), Free.kc (.int .i64 (i : Int)), Free.kc (.int .i64 (k0 : Int)), Free.kc (.int .i64 (j : Int)), Free.kO (w.heap.size) (tpath (l.drop k0) j), Free.kc (.slice A n c), Free.kc (.int .i64 (k0 : Int)), Free.kr (k0) ((l.take k0).map sv), Free.kc (sv (troot (l.take k0))), Free.kr (1) ([sv (troot (l.take k0))])] (by kernel_rfl) (by kernel_rfl) (by decide) (Below.refl _ _).drew (fun w w' h g => bt h g) ?_ ?_
    ·
     iterate 12 refine Free.forall_succ ?_ ?_
     all_goals first | exact Free.forall_zero | (refine Free.op fun vals wq hC hd => ?_) | skip
     · exact Free.dm
     · exact Free.dm
     · obtain ⟨A', hrun, hss⟩ := run_cutS_lo (HSS.out wq hC) k0 hk0; exact Free.d_slice rfl (Free.tr 0 hd) (show _ = some (Value.int .i64 (k0 : Int)) from congrArg some (Free.tr 1 hd)) rfl rfl hrun ⟨A', c - k0, rfl, hss.rd, hss.cap, hss.max⟩
     · exact Free.dm
     · exact Free.dm
     · exact Free.d_bin rfl (Free.tr 3 hd) (Free.tr 4 hd) (by go_simp) (by first | (go_simp; done) | (go_simp; omega) | (go_simp; rw [IntWalk.i64_in _ (by omega)]; done) | (go_simp; rw [IntWalk.i64_in _ (by omega)]; omega)) rfl
     · obtain ⟨A2, k2, e2, rd2, le2, mx2⟩ := hd 2 (by kernel_rfl); exact Free.d_call Tryz.func40 (by kernel_rfl) (by kernel_rfl) rfl rfl (Free.arg2 (Eq.trans (b := vals 2) (by kernel_rfl) e2) (Free.tr 5 hd)) ((IH.out A2 _ k2 (l.drop k0) j wq HDR.out ⟨rd2, HLT.out.2, le2, mx2⟩ HKQ.out.2 (by omega)).mono fun e w2 h => (by obtain ⟨A1, n1, c1, he, ho, hb⟩ := h; exact ⟨_, he, ⟨A1, n1, c1, rfl, ho.base hC.size⟩, hb⟩))
     · exact Free.dm
     · exact Free.dm
     · obtain ⟨A', hrun, hss⟩ := run_cutS_hi (HSS.out wq hC) k0 hk0; exact Free.d_slice rfl (Free.tr 7 hd) rfl (show _ = some (Value.int .i64 (k0 : Int)) from congrArg some (Free.tr 8 hd)) rfl hrun ⟨A', c, rfl, hss.rd, hss.cap, hss.max⟩
     · obtain ⟨A9, k9, e9, rd9, le9, mx9⟩ := hd 9 (by kernel_rfl); exact Free.d_call Tryz.func64 (by kernel_rfl) (by kernel_rfl) rfl rfl (Free.arg1 (Eq.trans (b := vals 9) (by kernel_rfl) e9)) ((rroot_any _ A9 _ k9 (l.take k0) wq (Nat.le_refl _) ⟨rd9, HLT.out.1, le9, mx9⟩ HTK.out (by omega)).mono fun e w2 h => ⟨_, h.1, rfl, h.2⟩)
     · exact Free.d_build (w' := wq.alloc (.cells ([sv (troot (l.take k0))] : List Value).toArray 9)) rfl (Free.parts1 (Free.tr 10 hd)) (by go_simp) ((Below.refl _ _).alloc (Nat.le_refl _) _) ⟨_, _, rfl, (rd_new wq [_] _ _).more (by unfold World.alloc; simp), Nat.le_refl _, by rw [maxLen_eq]; omega⟩
    ·
     intro vals wq hC hd
     refine Free.go hd ?_
     rintro _ rfl _ rfl _ ⟨A2, k2, rfl, rd2, le2, mx2⟩ _ rfl _ rfl _ rfl _ ⟨A6, n6, k6, rfl, ow6⟩ _ rfl _ rfl _ ⟨A9, k9, rfl, rd9, le9, mx9⟩ _ rfl _ ⟨A11, k11, rfl, rd11, le11, mx11⟩
     simp only [Free.All, Free.fl, Act.put, Free.sa, Free.s0, Free.s1]
     clear hd
     have hs1 : Ss wq A11 1 k11 [troot (l.take k0)] := ⟨rd11, rfl, le11, mx11⟩
     have HB := Lib.hid hC
     have hnp : n6 ≤ 2000 := by rw [← ow6.len]; exact HPL.out
     clear hC rd11
     refine wl_appSS rfl (.tmp 32) (.tmp 37) rfl rfl ow6 rfl hs1 (by omega) HB.out.size ?_
     intro A' n' c' w' ho' hb'
     simp only [Act.put, List.setIfInBounds_toArray, List.set_cons_succ, List.set_cons_zero]
     go_wp2_with fail
     go_ret
     exact ⟨A', n', c', rfl, by rw [HE.out]; exact ho', HB.out.trans hb'⟩
theorem arg4' {ρ : Operand → Value} {x y z u : Operand} {c d e f : Value} (h : ρ x = c) (h2 : ρ y = d) (h3 : ρ z = e) (h4 : ρ u = f) : (#[x, y, z, u] : Array Operand).map ρ = #[c, d, e, f] := by simp [h, h2, h3, h4]
theorem rsteps_any : ∀ (q i n : Nat) (w : World), n ≤ q → i < n → n ≤ 1099511627776 → Calls Tryz.prog 51 #[.int .i64 (i : Int), .int .i64 (n : Int)] w fun e w' => e = .returned (.int .i64 ((Tree.sides i n).length : Int)) ∧ w = w'
 | q, i, n, w, hq, hi, hn => by
  by_cases h2 : n < 2
  ·
   have HE := Lib.hid (show Tree.sides i n = [] from Tree.sides_small h2)
   go_enter Tryz.func51, Tryz.ntmps51
   go_wp2
   go_ret
   exact ⟨by rw [HE.out]; rfl, rfl⟩
  ·
   match q, hq with
   | 0, hq => omega
   | q + 1, hq =>
   have hlog := Tree.sides_log 40 i n (by rw [show (2 : Nat) ^ 40 = 1099511627776 by decide]; exact hn) hi
   obtain ⟨k0, hk⟩ : ∃ k0, Tree.sp n = k0 := ⟨_, rfl⟩
   have kp := Tree.sp_pos (n := n) (by omega)
   have kl := Tree.sp_lt (n := n) (by omega)
   rw [hk] at kp kl
   have HSP := Lib.hid (show Tree.spz (n : Int) = k0 by rw [Tree.spz_in (by omega) (by omega), hk])
   by_cases hlt : i < k0
   ·
    have hE := Tree.sides_left (i := i) (n := n) (by omega) (by rw [hk]; exact hlt)
    rw [hk] at hE
    obtain ⟨s, hs⟩ : ∃ s, (Tree.sides i k0).length = s := ⟨_, rfl⟩
    rw [hE, List.length_cons, hs] at hlog
    have HE := Lib.hid (show ((Tree.sides i n).length : Int) = 1 + (s : Int) by rw [hE, List.length_cons, hs]; push_cast; omega)
    have ih := rsteps_any q i k0 w (by omega) hlt (by omega)
    rw [hs] at ih
    have IH := Lib.hid ih
    clear hE hs ih hk
    go_enter Tryz.func51, Tryz.ntmps51
    go_wp2_with fail
    refine (rsplit_any (n : Int) w (by omega) (by omega)).mono ?_
    rintro e w1 ⟨rfl, rfl⟩
    rw [HSP.out]
    go_wp2_with fail
    refine IH.out.mono ?_
    rintro e w1 ⟨rfl, rfl⟩
    go_wp2
    go_ret
    exact ⟨by rw [HE.out]; rfl, rfl⟩
   ·
    have hE := Tree.sides_right (i := i) (n := n) (by omega) (by rw [hk]; exact hlt)
    rw [hk] at hE
    obtain ⟨s, hs⟩ : ∃ s, (Tree.sides (i - k0) (n - k0)).length = s := ⟨_, rfl⟩
    rw [hE, List.length_cons, hs] at hlog
    have HE := Lib.hid (show ((Tree.sides i n).length : Int) = 1 + (s : Int) by rw [hE, List.length_cons, hs]; push_cast; omega)
    have ih := rsteps_any q (i - k0) (n - k0) w (by omega) (by omega) (by omega)
    rw [hs, show ((i - k0 : Nat) : Int) = (i : Int) - (k0 : Int) by omega, show ((n - k0 : Nat) : Int) = (n : Int) - (k0 : Int) by omega] at ih
    have IH := Lib.hid ih
    clear hE hs ih hk
    go_enter Tryz.func51, Tryz.ntmps51
    go_wp2_with fail
    refine (rsplit_any (n : Int) w (by omega) (by omega)).mono ?_
    rintro e w1 ⟨rfl, rfl⟩
    rw [HSP.out]
    go_wp2_with fail
    refine IH.out.mono ?_
    rintro e w1 ⟨rfl, rfl⟩
    go_wp2
    go_ret
    exact ⟨by rw [HE.out]; rfl, rfl⟩
abbrev tclimb (d : List UInt8) (i n : Nat) (p : List (List UInt8)) : List UInt8 := Tree.clb tnd tnil d (Tree.sides i n) p
theorem clb_len {d : List UInt8} (hd : d.length ≤ 100000) (S : List Bool) (p : List (List UInt8)) : (Tree.clb tnd tnil d S p).length ≤ 100000 := by
 cases S with
 | nil => exact hd
 | cons s ss =>
  unfold Tree.clb
  split
  · rw [tnd_len]; omega
  · rw [tnd_len]; omega
structure OwnF (w : World) (B : Nat) (A : Option Addr) (n c : Nat) (l : List Bool) : Prop where
 own : w.ownsRow B 4 1 (.slice A n c) n (l.map Value.bool)
 len : l.length = n
 cap : n ≤ c
 max : c ≤ maxLen
section
variable {w w' : World} {B B' n c : Nat} {A : Option Addr} {l : List Bool}
theorem OwnF.keep (h : OwnF w B A n c l) (hb : Below w.heap.size w w') : OwnF w' B A n c l := ⟨own_keep h.own hb (Nat.le_refl _), h.len, h.cap, h.max⟩
theorem OwnF.nil (w : World) (B : Nat) : OwnF w B none 0 0 [] := ⟨own_nil _ _ _ _, rfl, Nat.le_refl _, Nat.zero_le _⟩
theorem info_bool : (Tryz.prog.info? 4).map (fun i => (i.zero, i.size, i.bytes)) = some (some (.bool false), 1, 1) := by kernel_rfl
theorem boolsT : ElemT Tryz.prog 128 4 1 1 := ElemT.mk' Tryz.underlying128 info_bool rfl (by omega)
theorem OwnF.at (h : OwnF w B A n c l) {k : Nat} {s : Bool} (hs : l[k]? = some s) : ∃ b off, A = some ⟨b, off, none⟩ ∧ b < w.heap.size ∧ w.cell? ⟨b, off + k, none⟩ = some (.bool s) := by
 obtain ⟨b, off, hA, hb, hc⟩ := Rd.of_own h.own (fun e => by
  have h3 : l = [] := by simpa using e
  rw [h3] at hs
  simp at hs)
 exact ⟨b, off, hA, hb, hc k (.bool s) (by rw [List.getElem?_map, hs]; rfl)⟩
end
section
variable {ops : Array Oper} {rest : List Oper} {o : Oper} {a : Act} {Q : Exit → Act → World → Prop} {w : World}
theorem wl_appF1 (hgd : o.guard = none) (s x : Operand) (ho : o.op = .call { callee := .builtin .append, args := #[s, x], argTypes := #[128, 128] })
  {w0 : World} {B : Nat} {A : Option Addr} {n c : Nat} {l : List Bool} (hs : a.eval s = .slice A n c) (h1 : OwnF w0 B A n c l)
  (hx : a.eval x = .slice (some ⟨w0.heap.size, 0, none⟩) 1 1) (b : Bool) (hsz : n ≤ 1000000000000) (hB : B ≤ w0.heap.size)
  (h : ∀ A' n' c' w', OwnF w' B A' n' c' (l ++ [b]) → Below B w0 w' → wpList Tryz.prog ops Q rest (a.put o.dst (.slice A' n' c')) w') : wpList Tryz.prog ops Q (o :: rest) a (w0.alloc (.cells #[.bool b] 4)) := by
 have hb0 : Below w0.heap.size w0 (w0.alloc (.cells #[.bool b] 4)) := (Below.refl _ w0).alloc (Nat.le_refl _) _
 refine wl_app hgd s x 128 ho B 4 1 1 boolsT _ n _ hs (h1.keep hb0).own (w0.heap.size + 1) (some ⟨w0.heap.size, 0, none⟩) 1 1 [.bool b] hx (rd_new w0 [.bool b] 4 (0, 0)) rfl (by simp [Value.oneCell']) (by rw [maxLen_eq]; omega) (by omega) (Nat.le_trans hB hb0.size) fun A' c' w' g1 g2 _ g4 g5 g6 => ?_
 exact h A' (n + 1) c' w' ⟨by rw [List.map_append]; exact g1, by rw [List.length_append, h1.len]; rfl, g5, g6⟩ ((hb0.mono hB).trans g4)
end
def OwnFPost (B : Nat) (l : List Bool) (w : World) (e : Ending) (w' : World) : Prop := ∃ A n c, e = .returned (.slice A n c) ∧ OwnF w' B A n c l ∧ Below B w w'
theorem descend_any (i n : Nat) (w : World) (hi : i < n) (hn : n ≤ 1099511627776) : Calls Tryz.prog 90 #[.int .i64 (i : Int), .int .i64 (n : Int)] w (OwnFPost w.heap.size (Tree.sides i n) w) := by
 have hlog := Tree.sides_log 40 i n (by rw [show (2 : Nat) ^ 40 = 1099511627776 by decide]; exact hn) hi
 obtain ⟨S, hS⟩ : ∃ S, Tree.sides i n = S := ⟨_, rfl⟩
 rw [hS] at hlog ⊢
 have HS := Lib.hid hS
 clear hS
 go_enter Tryz.func90, Tryz.ntmps90
 go_wp2
 go_loopw [0, 1, 5] (fun vi vn vs wr => ∃ (x m : Nat) (A' : Option Addr) (n' c' : Nat) (acc : List Bool), vi = .int .i64 x ∧ vn = .int .i64 m ∧ vs = .slice A' n' c' ∧ x < m ∧ m ≤ n ∧ n' ≤ 40 ∧ OwnF wr w.heap.size A' n' c' acc ∧ Below w.heap.size w wr ∧ Hid (acc ++ Tree.sides x m = S)) (fun _ vn _ _ => (intOf vn).toNat)
 case atStart => exact ⟨i, n, none, 0, 0, [], rfl, rfl, rfl, hi, Nat.le_refl _, by omega, OwnF.nil _ _, Below.refl _ _, Lib.hid HS.out⟩
 case round =>
  obtain ⟨x, m, A', n', c', acc, rfl, rfl, rfl, hxm, hmn, hn', hown, hbel, heq⟩ := hrel
  by_cases h1 : 1 < m
  ·
   obtain ⟨k0, hk⟩ : ∃ k0, Tree.sp m = k0 := ⟨_, rfl⟩
   have kp := Tree.sp_pos (n := m) (by omega)
   have kl := Tree.sp_lt (n := m) (by omega)
   rw [hk] at kp kl
   have HSP := Lib.hid (show Tree.spz (m : Int) = k0 by rw [Tree.spz_in (by omega) (by omega), hk])
   have hsplit := fun (w : World) => split_any (m : Int) w (by omega) (by omega)
   by_cases hlt : x < k0
   ·
    have hsd := Tree.sides_left (i := x) (n := m) (by omega) (by rw [hk]; exact hlt)
    rw [hk] at hsd
    have HN := Lib.hid (show (acc ++ [false]) ++ Tree.sides x k0 = S by rw [List.append_assoc, ← heq.out, hsd]; rfl)
    have hl9 : n' + 1 ≤ 40 := by
     have := congrArg List.length HN.out
     rw [List.length_append, List.length_append, hown.len] at this
     simp at this; omega
    have hci : (x : Int) < (k0 : Int) := by omega
    clear hsd hk heq
    go_wp2_with fail
    refine (hsplit wr).mono ?_
    rintro e w1 ⟨rfl, rfl⟩
    rw [HSP.out]
    go_wp2_with (at_builtin; refine wl_appF1 rfl (.tmp 14) (.tmp 15) rfl rfl hown rfl false (by omega) hbel.size ?_; intro A1 n1 c1 w1 ho1 hb1)
    have hn1 : n1 ≤ 40 := by have := ho1.len; rw [List.length_append, hown.len] at this; simp at this; omega
    go_roundw
    case rel => exact ⟨x, k0, A1, n1, c1, _, rfl, rfl, rfl, hlt, by omega, hn1, ho1, hbel.trans hb1, Lib.hid HN.out⟩
    case measure => simp [intOf]; omega
   ·
    have hsd := Tree.sides_right (i := x) (n := m) (by omega) (by rw [hk]; exact hlt)
    rw [hk] at hsd
    have HN := Lib.hid (show (acc ++ [true]) ++ Tree.sides (x - k0) (m - k0) = S by rw [List.append_assoc, ← heq.out, hsd]; rfl)
    have hl9 : n' + 1 ≤ 40 := by
     have := congrArg List.length HN.out
     rw [List.length_append, List.length_append, hown.len] at this
     simp at this; omega
    have hci : ¬ (x : Int) < (k0 : Int) := by omega
    clear hsd hk heq
    go_wp2_with fail
    refine (hsplit wr).mono ?_
    rintro e w1 ⟨rfl, rfl⟩
    rw [HSP.out]
    go_wp2_with (at_builtin; refine wl_appF1 rfl (.tmp 18) (.tmp 19) rfl rfl hown rfl true (by omega) hbel.size ?_; intro A1 n1 c1 w1 ho1 hb1)
    have hn1 : n1 ≤ 40 := by have := ho1.len; rw [List.length_append, hown.len] at this; simp at this; omega
    go_roundw
    case rel => exact ⟨x - k0, m - k0, A1, n1, c1, _, by go_num, by go_num, rfl, by omega, by omega, hn1, ho1, hbel.trans hb1, Lib.hid HN.out⟩
    case measure => simp [intOf]; omega
  ·
   have HF := Lib.hid (show acc = S by have := heq.out; rw [Tree.sides_small (by omega), List.append_nil] at this; exact this)
   go_wp2
   go_ret
   exact ⟨A', n', c', rfl, by rw [← HF.out]; exact hown, hbel⟩
theorem climb_arg (d : List UInt8) (i n : Int) (A : Option Addr) (m c : Nat) (w : World) (hd : d.length ≤ maxLen) (h1 : -9223372036854775808 ≤ i) (h2 : i ≤ 9223372036854775807) (h3 : -9223372036854775808 ≤ n) (h4 : n ≤ 9223372036854775807)
  (hbad : ¬ d.length = 32 ∨ n < 1 ∨ 1099511627776 < n ∨ i < 0 ∨ n ≤ i) :
  Calls Tryz.prog 46 #[sv d, .int .i64 i, .int .i64 n, .slice A m c] w fun e w' => e = .returned (.tuple #[sv [], .int .i64 1]) ∧ w = w' := by
 rw [maxLen_eq] at hd
 have z := strLen d
 obtain ⟨q, hq⟩ : ∃ q, d.length = q := ⟨_, rfl⟩
 rw [hq] at hd z hbad
 clear hq
 by_cases a1 : q = 32
 ·
  subst a1
  by_cases a2 : n < 1
  ·
   clear hbad
   go_enter Tryz.func46, Tryz.ntmps46
   go_wp2
   go_ret2
   exact ⟨rfl, rfl⟩
  ·
   by_cases a3 : 1099511627776 < n
   ·
    clear hbad
    go_enter Tryz.func46, Tryz.ntmps46
    go_wp2
    go_ret2
    exact ⟨rfl, rfl⟩
   ·
    by_cases a4 : i < 0
    ·
     clear hbad
     go_enter Tryz.func46, Tryz.ntmps46
     go_wp2
     go_ret2
     exact ⟨rfl, rfl⟩
    ·
     have a5 : n ≤ i := by omega
     clear hbad
     go_enter Tryz.func46, Tryz.ntmps46
     go_wp2
     go_ret2
     exact ⟨rfl, rfl⟩
 ·
  have b1 : ((q : Int) == 32) = false := beq_eq_false_iff_ne.2 (by omega)
  have b2 : ¬ (q : Int) = 32 := by omega
  clear hbad
  go_enter Tryz.func46, Tryz.ntmps46
  go_wp2
  go_ret2
  exact ⟨rfl, rfl⟩
theorem climb_proof (d : List UInt8) (i n : Nat) (A : Option Addr) (m c : Nat) (p : List (List UInt8)) (w : World) (hd : d.length = 32) (hi : i < n) (hn : n ≤ 1099511627776) (h : Ss w A m c p) (hwf : ∀ s ∈ p, s.length ≤ maxLen)
  (hbad : ¬ m = (Tree.sides i n).length ∨ Tree.all32 p = false) :
  Calls Tryz.prog 46 #[sv d, .int .i64 (i : Int), .int .i64 (n : Int), .slice A m c] w fun e w' => e = .returned (.tuple #[sv [], .int .i64 6]) ∧ Below w.heap.size w w' := by
 have z := strLen d
 rw [hd] at z
 have hm := h.max
 have hcap := h.cap
 rw [maxLen_eq] at hm
 have hlog := Tree.sides_log 40 i n (by rw [show (2 : Nat) ^ 40 = 1099511627776 by decide]; exact hn) hi
 have HD := Lib.hid (descend_any i n w hi hn)
 obtain ⟨S, hS⟩ : ∃ S, Tree.sides i n = S := ⟨_, rfl⟩
 rw [hS] at hlog hbad HD
 clear hS
 obtain ⟨t, ht⟩ : ∃ t, S.length = t := ⟨_, rfl⟩
 rw [ht] at hlog hbad
 have g1 : ¬ (n : Int) < 1 := by omega
 have g2 : ¬ (1099511627776 : Int) < (n : Int) := by omega
 have g3 : ¬ (i : Int) < 0 := by omega
 have g4 : ¬ (n : Int) ≤ (i : Int) := by omega
 have HH := Lib.hid h
 have HW := Lib.hid hwf
 clear h hwf
 by_cases hmt : m = t
 ·
  have ha : Tree.all32 p = false := by
   rcases hbad with h | h
   · exact absurd hmt h
   · exact h
  have HA := Lib.hid ha
  clear hbad ha
  subst hmt
  go_enter Tryz.func46, Tryz.ntmps46
  go_wp2_with fail
  refine HD.out.mono ?_
  rintro e w1 ⟨A1, n1, c1, rfl, ho1, hb1⟩
  have hn1 : n1 = m := by rw [← ho1.len, ht]
  subst hn1
  go_wp2_with fail
  refine (digests_any A n1 c p w1 (HH.out.keep hb1) HW.out).mono ?_
  rintro e w2 ⟨rfl, rfl⟩
  rw [HA.out]
  go_wp2
  go_ret2
  exact ⟨rfl, hb1⟩
 ·
  have b1 : ((m : Int) == (t : Int)) = false := beq_eq_false_iff_ne.2 (by omega)
  clear hbad
  go_enter Tryz.func46, Tryz.ntmps46
  go_wp2_with fail
  refine HD.out.mono ?_
  rintro e w1 ⟨A1, n1, c1, rfl, ho1, hb1⟩
  have hn1 : n1 = t := by rw [← ho1.len, ht]
  subst hn1
  go_wp2
  go_ret2
  exact ⟨rfl, hb1⟩
theorem climb_yes (d : List UInt8) (i n : Nat) (A : Option Addr) (m c : Nat) (p : List (List UInt8)) (w : World) (hd : d.length = 32) (hi : i < n) (hn : n ≤ 1099511627776) (h : Ss w A m c p) (h32 : ∀ s ∈ p, s.length = 32) (ht : Tabs w)
  (hlen : m = (Tree.sides i n).length) :
  Calls Tryz.prog 46 #[sv d, .int .i64 (i : Int), .int .i64 (n : Int), .slice A m c] w fun e w' => e = .returned (.tuple #[sv (tclimb d i n p), .int .i64 0]) ∧ Below w.heap.size w w' := by
 have z := strLen d
 rw [hd] at z
 have hm := h.max
 have hcap := h.cap
 rw [maxLen_eq] at hm
 have hlog := Tree.sides_log 40 i n (by rw [show (2 : Nat) ^ 40 = 1099511627776 by decide]; exact hn) hi
 have HD := Lib.hid (descend_any i n w hi hn)
 have HE := Lib.hid (show tclimb d i n p = Tree.clb tnd tnil d (Tree.sides i n) p from rfl)
 obtain ⟨S, hS⟩ : ∃ S, Tree.sides i n = S := ⟨_, rfl⟩
 rw [hS] at hlog hlen HD HE
 clear hS
 have g1 : ¬ (n : Int) < 1 := by omega
 have g2 : ¬ (1099511627776 : Int) < (n : Int) := by omega
 have g3 : ¬ (i : Int) < 0 := by omega
 have g4 : ¬ (n : Int) ≤ (i : Int) := by omega
 have HT := Lib.hid ht
 have H32 := Lib.hid h32
 have HL := Lib.hid (And.intro hlen h.len)
 have HDL := Lib.hid hd
 have hm40 : m ≤ 40 := by omega
 clear ht h32 hlen hlog hd
 go_enter Tryz.func46, Tryz.ntmps46
 go_wp2_with fail
 refine HD.out.mono ?_
 rintro e w1 ⟨A1, n1, c1, rfl, ho1, hb1⟩
 have hn1 : n1 = m := by rw [← ho1.len, HL.out.1]
 subst hn1
 have HB1 := Lib.hid hb1
 have hs1 := h.keep hb1
 clear hb1
 go_wp2_with fail
 refine (digests_any A n1 c p w1 hs1 (fun s hs => by rw [H32.out s hs]; decide)).mono ?_
 rintro e w2 ⟨rfl, rfl⟩
 rw [Tree.all32_iff.2 H32.out]
 go_wp2
 go_loopw [11, 49] (fun vd vj wr => ∃ (Y : List UInt8) (j : Nat), vd = sv Y ∧ vj = .int .i64 j ∧ j ≤ n1 ∧ Hid (Y.length = 32 ∧ Y = Tree.clb tnd tnil d (S.drop (S.length - j)) (p.take j)) ∧ Below w1.heap.size w1 wr) (fun _ vj _ => n1 - (intOf vj).toNat)
 case atStart => exact ⟨d, 0, rfl, rfl, by omega, Lib.hid ⟨HDL.out, by rw [Nat.sub_zero, List.drop_length]; rfl⟩, Below.refl _ _⟩
 case round =>
  obtain ⟨Y, j, rfl, rfl, hj, hY, hbel⟩ := hrel
  by_cases hlt : j < n1
  ·
   obtain ⟨r, hr⟩ : ∃ r, r + 1 + j = n1 := ⟨n1 - 1 - j, by omega⟩
   obtain ⟨b, off, rfl, hbb, hcell, x, hx⟩ := hs1.at hlt
   have x0 := (hbel.cell (p := ⟨b, off + j, none⟩) hbb).trans (hcell j x hx)
   obtain ⟨s, hs⟩ : ∃ s, S[r]? = some s := ⟨_, List.getElem?_eq_getElem (by rw [← HL.out.1]; omega)⟩
   obtain ⟨b2, off2, rfl, hb2, y0⟩ := (ho1.keep hbel).at hs
   have hxl := H32.out x (List.mem_of_getElem? hx)
   have HN := Lib.hid (Tree.clb_next tnd tnil d (S := S) (p := p) (j := j) (s := s) (x := x) (by rw [HL.out.2, ← HL.out.1]) (by rw [HL.out.2]; exact hlt) (by rw [← HL.out.1, show n1 - 1 - j = r by omega]; exact hs) hx)
   have c1 : (n1 : Int) - 1 - (j : Int) = (r : Int) := by omega
   have hrn : r < n1 := by omega
   have hci : (j : Int) < (n1 : Int) := by omega
   have HX := Lib.hid hxl
   clear hcell hx hs hr hxl
   cases s with
   | true =>
    go_wp2_with fail
    refine (tnode_any x Y wr HX.out hY.out.1 (HT.out.below (bt HB1.out hbel))).mono ?_
    rintro e w3 ⟨rfl, hb3⟩
    have HB3 := Lib.hid (bt hbel hb3)
    clear hb3 x0 y0
    go_wp2
    go_roundw
    case rel => exact ⟨_, j + 1, rfl, by go_num, by omega, Lib.hid ⟨tnd_len _ _, by rw [HN.out, ← hY.out.2]; simp⟩, HB3.out⟩
    case measure => simp [intOf]; omega
   | false =>
    go_wp2_with fail
    refine (tnode_any Y x wr hY.out.1 HX.out (HT.out.below (bt HB1.out hbel))).mono ?_
    rintro e w3 ⟨rfl, hb3⟩
    have HB3 := Lib.hid (bt hbel hb3)
    clear hb3 x0 y0
    go_wp2
    go_roundw
    case rel => exact ⟨_, j + 1, rfl, by go_num, by omega, Lib.hid ⟨tnd_len _ _, by rw [HN.out, ← hY.out.2]; simp⟩, HB3.out⟩
    case measure => simp [intOf]; omega
  ·
   obtain rfl : j = n1 := by omega
   have HF := Lib.hid (show tclimb d i n p = Y by
    rw [HE.out, hY.out.2, ← HL.out.1, Nat.sub_self, List.drop_zero, List.take_of_length_le (by rw [HL.out.2]; exact Nat.le_refl _)])
   have HB := Lib.hid (bt HB1.out hbel)
   go_wp2
   go_ret2
   exact ⟨by rw [HF.out]; rfl, HB.out⟩
end Go.Proofs.YteoledjllpgcbaaGreatDoor
