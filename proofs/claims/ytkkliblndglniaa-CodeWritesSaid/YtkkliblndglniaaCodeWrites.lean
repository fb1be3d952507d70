/- CodeWrites: the walk of the law. -/
import Derived.Test.YtkkliblndglniaaCodeBack
namespace Go.Proofs.Ytkkliblndglniaa
set_option linter.unusedVariables false
open Go.RowKit

theorem run_add_str {P : Program} {w : World} (T : TypeId) (a b : List UInt8) (h : a.length + b.length ≤ 1000000) : (binOp .add T (.string (str a)) (.string (str b))).run P w = .ok (sv (a ++ b)) w := by
  have h2 : ¬ (((str a).size + (str b).size : Nat) : Int) > IntKind.i64.max := by
    rw [strLen, strLen]
    have : IntKind.i64.max = 9223372036854775807 := by decide
    rw [this]; omega
  rw [binOp_string_add, Op.stringOp]
  simp only [if_neg h2, Sem.run_pure, strApp]
def KrP (l : List UInt8) (w : World) (e : Ending) (w2 : World) : Prop := ∃ v, e = .returned v ∧ (Free.kr l.length (l.map bv)).p v w2 ∧ Below w.heap.size w w2
theorem Ret8.kr {l : List UInt8} {w w2 : World} {e : Ending} (h : Ret8 w.heap.size l w e w2) : KrP l w e w2 := by
  obtain ⟨A, n, c, he, ho, hb⟩ := h
  have hn := ho.len
  subst hn
  exact ⟨_, he, ⟨A, c, rfl, ho.bs.rd, ho.cap, ho.max⟩, hb⟩
set_option maxRecDepth 100000 in
set_option maxHeartbeats 16000000 in
theorem writes_any (v : Int) (s : List UInt8) (hws : s.length ≤ maxLen) (A : Option Addr) (n c : Nat) (ls : List (List UInt8)) (B : Option Addr) (m k : Nat) (r : List UInt8) (w : World) (hr : Rd w w.heap.size A (ls.map sv)) (hn : ls.length = n) (hc : n ≤ c) (hm : c ≤ maxLen) (hwf : ∀ x ∈ ls, x.length ≤ maxLen)
    (hr2 : Rd w w.heap.size B (r.map bv)) (hn2 : r.length = m) (hk : m ≤ k) (hk2 : k ≤ maxLen) (hv : -9223372036854775808 ≤ v ∧ v ≤ 9223372036854775807) :
    Calls Try.prog 4 #[.int .i64 v, sv s, .slice A n c, .slice B m k] w (RetB true w) := by
  have hS : Ss w A n c ls := ⟨hr, hn, hc, hm⟩
  have hR : Bs w B m k r := ⟨hr2, hn2, hk, hk2⟩
  have hG := great2_any A n c ls w hS hwf
  have HN := Lib.hid (And.intro hn hn2)
  rw [maxLen_eq] at hm hk2 hws
  obtain ⟨ns, hns⟩ : ∃ x, s.length = x := ⟨_, rfl⟩
  have z := strLen s
  rw [hns] at z hws
  have HS := Lib.hid hns
  obtain ⟨v1, v2⟩ := hv
  clear hr hn hwf hr2 hn2 hns
  have skip : ∀ (hbad : greatS ls = true ∨ 1000 < ns ∨ 100 < m), Calls Try.prog 4 #[.int .i64 v, sv s, .slice A n c, .slice B m k] w (RetB true w) := by
    intro hbad
    cases hg : greatS ls with
    | true =>
      rw [hg] at hG
      have HG := Lib.hid hG
      clear hG hg hbad
      go_enter Try.func4, Try.ntmps4
      go_wp2_with fail
      refine HG.out.mono ?_
      rintro e w0 ⟨rfl, rfl⟩
      go_wp2_with fail
      refine (knows2_any _).mono ?_
      rintro e w1 ⟨rfl, hb1⟩
      go_wp2
      go_ret
      exact ⟨rfl, hb1⟩
    | false =>
      rw [hg] at hG hbad
      have HG := Lib.hid hG
      have hbad2 : 1000 < ns ∨ 100 < m := by
        rcases hbad with h | h
        · cases h
        · exact h
      clear hG hg hbad
      rcases (show 1000 < ns ∨ (ns ≤ 1000 ∧ 100 < m) by omega) with h1 | ⟨h1, h2⟩
      all_goals
        clear hbad2
        go_enter Try.func4, Try.ntmps4
        go_wp2_with fail
        refine HG.out.mono ?_
        rintro e w0 ⟨rfl, rfl⟩
        go_wp2_with fail
        refine (knows2_any _).mono ?_
        rintro e w1 ⟨rfl, hb1⟩
        go_wp2
        go_ret
        exact ⟨rfl, hb1⟩
  by_cases hbad : greatS ls = true ∨ 1000 < ns ∨ 100 < m
  · exact skip hbad
  · clear skip
    have hg : greatS ls = false := by
      cases h : greatS ls with
      | false => rfl
      | true => exact absurd (.inl h) hbad
    have h1 : ns ≤ 1000 := Nat.le_of_not_lt fun h => hbad (.inr (.inl h))
    have h2 : m ≤ 100 := Nat.le_of_not_lt fun h => hbad (.inr (.inr h))
    rw [hg] at hG
    obtain ⟨hls, hln⟩ := greatS_no hg
    have HG := Lib.hid hG
    have hn50 : n ≤ 50 := by have := HN.out.1; omega
    obtain ⟨T, hT⟩ : ∃ T, Code.text s = T := ⟨_, rfl⟩
    obtain ⟨LT, hLT⟩ : ∃ T, r ++ Code.text s = T := ⟨_, rfl⟩
    obtain ⟨Y, hY⟩ : ∃ T, Code.list ls = T := ⟨_, rfl⟩
    obtain ⟨LL, hLL⟩ : ∃ T, r ++ Code.list ls = T := ⟨_, rfl⟩
    have lT : T.length ≤ 1009 := by rw [← hT]; have := text_len s (by rw [HS.out]; omega); rw [HS.out] at this; omega
    have lY : Y.length ≤ 60000 := by
      have h5 := flat_len ls hls
      have h6 := Code.num_len9 ls.length (by omega)
      rw [← hY]; unfold Code.list; rw [List.length_append]; omega
    have QT : Hid (∀ W, Below w.heap.size w W → Calls Try.prog 15 #[.slice B m k, sv s] W (KrP LT W)) := Lib.hid fun W h => by
      have h := (text_any B m k r s W (hR.keep h) (by omega) (by rw [HS.out]; omega)).mono fun e w2 h => h.kr
      rw [hLT] at h
      exact h
    have QRT : Hid (∀ W, Below w.heap.size w W → Calls Try.prog 16 #[sv s] W (KrP T W)) := Lib.hid fun W h => by
      have h := (rtext_any s W (by rw [HS.out]; omega)).mono fun e w2 h => h.kr
      rw [hT] at h
      exact h
    have QL : Hid (∀ W, Below w.heap.size w W → Calls Try.prog 17 #[.slice B m k, .slice A n c] W (KrP LL W)) := Lib.hid fun W h => by
      have h := (list_any B m k r A n c ls W (hR.keep h) (by omega) (hS.keep h) (by omega) (fun x hx => by have := hls x hx; omega)).mono fun e w2 h => h.kr
      rw [hLL] at h
      exact h
    have QRL : Hid (∀ W, Below w.heap.size w W → Calls Try.prog 18 #[.slice A n c] W (KrP Y W)) := Lib.hid fun W h => by
      have h := (rlist_any A n c ls W (hS.keep h) (by omega) (fun x hx => by have := hls x hx; omega)).mono fun e w2 h => h.kr
      rw [hY] at h
      exact h
    unfold KrP at QT QRT QL QRL
    have HLS := Lib.hid hls
    have HRR0 : Hid (∀ W, Below w.heap.size w W → Bs W B m k r) := Lib.hid fun W h => hR.keep h
    rw [hT] at hLT
    rw [hY] at hLL
    have HTY := Lib.hid (And.intro hLT hLL)
    have hlr : r.length = m := HN.out.2
    clear hT hY hLT hLL hls hln hbad hg hG
    have hb0 : Below w.heap.size w (w.alloc (.cells #[] 5)) := (Below.refl _ w).alloc (Nat.le_refl _) _
    by_cases hok : 0 ≤ v ∧ v ≤ 4611686018427387904
    · obtain ⟨h3, h4⟩ := hok
      obtain ⟨x, rfl⟩ : ∃ x : Nat, v = (x : Int) := ⟨v.toNat, by omega⟩
      obtain ⟨X, hX⟩ : ∃ T, Code.num x = T := ⟨_, rfl⟩
      obtain ⟨LN, hLN⟩ : ∃ T, r ++ X = T := ⟨_, rfl⟩
      have lX : X.length ≤ 9 := by rw [← hX]; exact Code.num_len9 x (by omega)
      have QN0 : Hid (∀ W, Calls Try.prog 14 #[.int .i64 (x : Int)] W (KrP X W)) := Lib.hid fun W => by
        have h := (rnum_any x x W (Nat.le_refl _) (by omega)).mono fun e w2 h => h.kr
        rw [hX] at h
        exact h
      unfold KrP at QN0
      have HSZ := Lib.hid (show r.length + X.length ≤ 1000000 ∧ r.length + T.length ≤ 1000000 ∧ r.length + Y.length ≤ 1000000 from ⟨by omega, by omega, by omega⟩)
      have HLN := Lib.hid (And.intro hLN HTY.out)
      have HX := Lib.hid hX
      clear hX hLN lX lT lY hlr
      go_enter Try.func4, Try.ntmps4
      go_wp2_with fail
      refine HG.out.mono ?_
      rintro e w0 ⟨rfl, rfl⟩
      go_wp2_with (at_builtin; refine wl_app8 rfl (.tmp 25) (.tmp 26) rfl rfl (Own8.empty w (Nat.le_refl _)) rfl (hR.keep hb0) (by omega) hb0.size ?_; intro A4 n4 c4 w4 ho4 hb4 _; rw [List.nil_append] at ho4; have hn4 : n4 ≤ 100 := (by have h := ho4.len; rw [HN.out.2] at h; omega))
      have HB4 := Lib.hid (hb0.trans hb4)
      clear hb4
      refine (num_any A4 n4 c4 r x _ ho4.bs (by omega) (by omega)).mono ?_
      rintro e w5 ⟨A1, n1, c1, rfl, ho5, hb5⟩
      have HB5 := Lib.hid (bt HB4.out hb5)
      rw [HX.out, HLN.out.1] at ho5
      clear hb5
      go_wp2_with fail
      have HN1 := Lib.hid (show ∀ W, Below w5.heap.size w5 W → Bs W A1 n1 c1 LN from fun W h => ho5.bs.keep h)
      have HRR := Lib.hid (show ∀ W, Below w5.heap.size w5 W → Bs W B m k r from fun W h => HRR0.out W (bt HB5.out h))
      have QN := Lib.hid (show ∀ W, Below w5.heap.size w5 W → _ from fun W h => QN0.out W)
      clear ho5
      refine Free.wp_free_l 13 (fun W => Below w5.heap.size w5 W) [Free.kc (.slice A1 n1 c1), Free.kc (sv LN), Free.kc (.slice B m k), Free.kc (sv r), Free.kc (.int .i64 (x : Int)), Free.kr (X.length) (X.map bv), Free.kc (sv X), Free.kc (sv LN), Free.kc (.bool false), Free.kc (.bool false), Free.kc (.int .i64 0), Free.kc (.bool false), Free.kc (.bool false)] (by kernel_rfl) (by kernel_rfl) (by decide) (Below.refl _ _).drew (fun w w' h g => bt h g) ?_ ?_
      · refine Free.forall_succ (Free.forall_succ (Free.forall_succ (Free.forall_succ (Free.forall_succ (Free.forall_succ (Free.forall_succ (Free.forall_succ (Free.forall_succ (Free.forall_succ (Free.forall_succ (Free.forall_succ (Free.forall_succ (Free.forall_zero) ?_) ?_) ?_) ?_) ?_) ?_) ?_) ?_) ?_) ?_) ?_) ?_) ?_
        · exact Free.ob_plain _ rfl rfl fun vals wq hC hd => (by exact Free.d_move rfl (by kernel_rfl) rfl)
        · exact Free.ob_plain _ rfl rfl fun vals wq hC hd => (by exact Free.d_conv rfl (Eq.trans (b := vals 0) (by kernel_rfl) (hd 0 (by kernel_rfl))) (run_str (P := Try.prog) 23 9 5 Try.underlying23 Try.underlying5 Try.underlying9 A1 n1 c1 _ LN (HN1.out wq hC).rd (HN1.out wq hC).len) (Below.refl _ _) rfl)
        · exact Free.ob_plain _ rfl rfl fun vals wq hC hd => (by exact Free.d_move rfl (by kernel_rfl) rfl)
        · exact Free.ob_plain _ rfl rfl fun vals wq hC hd => (by exact Free.d_conv rfl (Eq.trans (b := vals 2) (by kernel_rfl) (hd 2 (by kernel_rfl))) (run_str (P := Try.prog) 23 9 5 Try.underlying23 Try.underlying5 Try.underlying9 B m k _ r (HRR.out wq hC).rd (HRR.out wq hC).len) (Below.refl _ _) rfl)
        · exact Free.ob_plain _ rfl rfl fun vals wq hC hd => (by exact Free.d_move rfl (by kernel_rfl) rfl)
        · exact Free.ob_plain _ rfl rfl fun vals wq hC hd => (by exact Free.d_call Try.func14 (by kernel_rfl) (by kernel_rfl) rfl rfl (Free.arg1 (Eq.trans (b := vals 4) (by kernel_rfl) (hd 4 (by kernel_rfl)))) ((QN.out wq hC).mono fun e w2 h => h))
        · exact Free.ob_plain _ rfl rfl fun vals wq hC hd => (by obtain ⟨A5, k5, e5, rd5, le5, mx5⟩ := hd 5 (by kernel_rfl); exact Free.d_conv rfl (Eq.trans (b := vals 5) (by kernel_rfl) e5) (run_str (P := Try.prog) 23 9 5 Try.underlying23 Try.underlying5 Try.underlying9 A5 _ k5 _ X rd5 rfl) (Below.refl _ _) rfl)
        · exact Free.ob_plain _ rfl rfl fun vals wq hC hd => (by exact Free.d_bin rfl (Eq.trans (b := vals 3) (by kernel_rfl) (hd 3 (by kernel_rfl))) (Eq.trans (b := vals 6) (by kernel_rfl) (hd 6 (by kernel_rfl))) (by go_simp) (by rw [run_add_str _ _ _ HSZ.out.1, HLN.out.1]) rfl)
        · exact Free.ob_plain _ rfl rfl fun vals wq hC hd => (by exact Free.d_bin rfl (Eq.trans (b := vals 1) (by kernel_rfl) (hd 1 (by kernel_rfl))) (Eq.trans (b := vals 7) (by kernel_rfl) (hd 7 (by kernel_rfl))) (by go_simp) (by rw [run_neq_str']; simp) rfl)
        · exact Free.ob_plain _ rfl rfl fun vals wq hC hd => (by exact Free.d_move rfl (Eq.trans (b := vals 8) (by kernel_rfl) (hd 8 (by kernel_rfl))) rfl)
        · exact Free.ob_guard _ rfl 9 54 false rfl rfl fun vals wq hC hd => ⟨Eq.trans (b := vals 9) (by kernel_rfl) (hd 9 (by kernel_rfl)), (by exact Free.d_move rfl (by kernel_rfl) rfl)⟩
        · exact Free.ob_guard _ rfl 9 54 false rfl rfl fun vals wq hC hd => ⟨Eq.trans (b := vals 9) (by kernel_rfl) (hd 9 (by kernel_rfl)), (by exact Free.d_bin rfl (Eq.trans (b := vals 10) (by kernel_rfl) (hd 10 (by kernel_rfl))) (show _ = (.int .i64 0 : Value) from rfl) (by go_simp) (by go_simp) rfl)⟩
        · exact Free.ob_plain _ rfl rfl fun vals wq hC hd => (by exact Free.d_pick rfl (Eq.trans (b := vals 9) (by kernel_rfl) (hd 9 (by kernel_rfl))) (Eq.trans (b := vals 11) (by kernel_rfl) (hd 11 (by kernel_rfl))) rfl)
      · intro vals wq hC hd
        have e0 : vals 0 = (.slice A1 n1 c1) := hd 0 (by decide)
        have e1 : vals 1 = (sv LN) := hd 1 (by decide)
        have e2 : vals 2 = (.slice B m k) := hd 2 (by decide)
        have e3 : vals 3 = (sv r) := hd 3 (by decide)
        have e4 : vals 4 = (.int .i64 (x : Int)) := hd 4 (by decide)
        obtain ⟨A5, k5, e5, rd5, le5, mx5⟩ := hd 5 (by decide)
        have e6 : vals 6 = (sv X) := hd 6 (by decide)
        have e7 : vals 7 = (sv LN) := hd 7 (by decide)
        have e8 : vals 8 = (.bool false) := hd 8 (by decide)
        have e9 : vals 9 = (.bool false) := hd 9 (by decide)
        have e10 : vals 10 = (.int .i64 0) := hd 10 (by decide)
        have e11 : vals 11 = (.bool false) := hd 11 (by decide)
        have e12 : vals 12 = (.bool false) := hd 12 (by decide)
        simp only [Free.frameOf, List.range, List.range.loop, List.foldl, Free.dstOf, List.getElem?_toArray, List.getElem?_cons_zero, List.getElem?_cons_succ, Option.bind_some, Act.put, List.setIfInBounds_toArray, List.set_cons_zero, List.set_cons_succ, e0, e1, e2, e3, e4, e5, e6, e7, e8, e9, e10, e11, e12]
        refine wpList_nil ?_
        clear hd e0 e1 e2 e3 e4 e5 e6 e7 e8 e9 e10 e11 e12
        have HB57 := Lib.hid hC
        obtain ⟨w8, hw8⟩ : ∃ W, wq = W := ⟨_, rfl⟩
        rw [hw8] at HB57 ⊢
        have HB8 := Lib.hid (bt HB5.out HB57.out)
        clear hC hw8 rd5 le5 mx5
        go_wp2_with fail
        have HBx := Lib.hid (bt HB5.out HB57.out)
        have QT := Lib.hid (show ∀ W, Below w5.heap.size w5 W → _ from fun W h => QT.out W (bt HB5.out h))
        have QRT := Lib.hid (show ∀ W, Below w5.heap.size w5 W → _ from fun W h => QRT.out W (bt HB5.out h))
        have QL := Lib.hid (show ∀ W, Below w5.heap.size w5 W → _ from fun W h => QL.out W (bt HB5.out h))
        have QRL := Lib.hid (show ∀ W, Below w5.heap.size w5 W → _ from fun W h => QRL.out W (bt HB5.out h))
        have HRR9 := fun (W : World) (h : Below w8.heap.size w8 W) => HRR.out W (bt HB57.out h)
        refine Free.wp_free_l 28 (fun W => Below w8.heap.size w8 W) [Free.kc (.slice B m k), Free.kc (sv s), Free.kr (LT.length) (LT.map bv), Free.kc (sv LT), Free.kc (.slice B m k), Free.kc (sv r), Free.kc (sv s), Free.kr (T.length) (T.map bv), Free.kc (sv T), Free.kc (sv LT), Free.kc (.bool true), Free.kc (.bool true), Free.kc (.slice B m k), Free.kc (.slice A n c), Free.kr (LL.length) (LL.map bv), Free.kc (sv LL), Free.kc (.slice B m k), Free.kc (sv r), Free.kc (.slice A n c), Free.kr (Y.length) (Y.map bv), Free.kc (sv Y), Free.kc (sv LL), Free.kc (.bool true), Free.kc (.bool true), Free.kc (.bool true), Free.kc (.bool true), Free.kc (.bool true), Free.kc (.bool true)] (by kernel_rfl) (by kernel_rfl) (by decide) (Below.refl _ _).drew (fun w w' h g => bt h g) ?_ ?_
        · refine Free.forall_succ (Free.forall_succ (Free.forall_succ (Free.forall_succ (Free.forall_succ (Free.forall_succ (Free.forall_succ (Free.forall_succ (Free.forall_succ (Free.forall_succ (Free.forall_succ (Free.forall_succ (Free.forall_succ (Free.forall_succ (Free.forall_succ (Free.forall_succ (Free.forall_succ (Free.forall_succ (Free.forall_succ (Free.forall_succ (Free.forall_succ (Free.forall_succ (Free.forall_succ (Free.forall_succ (Free.forall_succ (Free.forall_succ (Free.forall_succ (Free.forall_succ (Free.forall_zero) ?_) ?_) ?_) ?_) ?_) ?_) ?_) ?_) ?_) ?_) ?_) ?_) ?_) ?_) ?_) ?_) ?_) ?_) ?_) ?_) ?_) ?_) ?_) ?_) ?_) ?_) ?_) ?_
          · exact Free.ob_plain _ rfl rfl fun vals wq hC hd => (by exact Free.d_move rfl (by kernel_rfl) rfl)
          · exact Free.ob_plain _ rfl rfl fun vals wq hC hd => (by exact Free.d_move rfl (by kernel_rfl) rfl)
          · exact Free.ob_plain _ rfl rfl fun vals wq hC hd => (by exact Free.d_call Try.func15 (by kernel_rfl) (by kernel_rfl) rfl rfl (Free.arg2 (Eq.trans (b := vals 0) (by kernel_rfl) (hd 0 (by kernel_rfl))) (Eq.trans (b := vals 1) (by kernel_rfl) (hd 1 (by kernel_rfl)))) ((QT.out wq (bt HB57.out hC)).mono fun e w2 h => h))
          · exact Free.ob_plain _ rfl rfl fun vals wq hC hd => (by obtain ⟨A2, k2, e2, rd2, le2, mx2⟩ := hd 2 (by kernel_rfl); exact Free.d_conv rfl (Eq.trans (b := vals 2) (by kernel_rfl) e2) (run_str (P := Try.prog) 23 9 5 Try.underlying23 Try.underlying5 Try.underlying9 A2 _ k2 _ LT rd2 rfl) (Below.refl _ _) rfl)
          · exact Free.ob_plain _ rfl rfl fun vals wq hC hd => (by exact Free.d_move rfl (by kernel_rfl) rfl)
          · exact Free.ob_plain _ rfl rfl fun vals wq hC hd => (by exact Free.d_conv rfl (Eq.trans (b := vals 4) (by kernel_rfl) (hd 4 (by kernel_rfl))) (run_str (P := Try.prog) 23 9 5 Try.underlying23 Try.underlying5 Try.underlying9 B m k _ r (HRR9 wq hC).rd (HRR9 wq hC).len) (Below.refl _ _) rfl)
          · exact Free.ob_plain _ rfl rfl fun vals wq hC hd => (by exact Free.d_move rfl (by kernel_rfl) rfl)
          · exact Free.ob_plain _ rfl rfl fun vals wq hC hd => (by exact Free.d_call Try.func16 (by kernel_rfl) (by kernel_rfl) rfl rfl (Free.arg1 (Eq.trans (b := vals 6) (by kernel_rfl) (hd 6 (by kernel_rfl)))) ((QRT.out wq (bt HB57.out hC)).mono fun e w2 h => h))
          · exact Free.ob_plain _ rfl rfl fun vals wq hC hd => (by obtain ⟨A7, k7, e7, rd7, le7, mx7⟩ := hd 7 (by kernel_rfl); exact Free.d_conv rfl (Eq.trans (b := vals 7) (by kernel_rfl) e7) (run_str (P := Try.prog) 23 9 5 Try.underlying23 Try.underlying5 Try.underlying9 A7 _ k7 _ T rd7 rfl) (Below.refl _ _) rfl)
          · exact Free.ob_plain _ rfl rfl fun vals wq hC hd => (by exact Free.d_bin rfl (Eq.trans (b := vals 5) (by kernel_rfl) (hd 5 (by kernel_rfl))) (Eq.trans (b := vals 8) (by kernel_rfl) (hd 8 (by kernel_rfl))) (by go_simp) (by rw [run_add_str _ _ _ HSZ.out.2.1, HLN.out.2.1]) rfl)
          · exact Free.ob_plain _ rfl rfl fun vals wq hC hd => (by exact Free.d_bin rfl (Eq.trans (b := vals 3) (by kernel_rfl) (hd 3 (by kernel_rfl))) (Eq.trans (b := vals 9) (by kernel_rfl) (hd 9 (by kernel_rfl))) (by go_simp) (by rw [run_eql_str]; simp) rfl)
          · exact Free.ob_plain _ rfl rfl fun vals wq hC hd => (by exact Free.d_move rfl (Eq.trans (b := vals 10) (by kernel_rfl) (hd 10 (by kernel_rfl))) rfl)
          · exact Free.ob_guard _ rfl 11 69 true rfl rfl fun vals wq hC hd => ⟨Eq.trans (b := vals 11) (by kernel_rfl) (hd 11 (by kernel_rfl)), (by exact Free.d_move rfl (by kernel_rfl) rfl)⟩
          · exact Free.ob_guard _ rfl 11 69 true rfl rfl fun vals wq hC hd => ⟨Eq.trans (b := vals 11) (by kernel_rfl) (hd 11 (by kernel_rfl)), (by exact Free.d_move rfl (by kernel_rfl) rfl)⟩
          · exact Free.ob_guard _ rfl 11 69 true rfl rfl fun vals wq hC hd => ⟨Eq.trans (b := vals 11) (by kernel_rfl) (hd 11 (by kernel_rfl)), (by exact Free.d_call Try.func17 (by kernel_rfl) (by kernel_rfl) rfl rfl (Free.arg2 (Eq.trans (b := vals 12) (by kernel_rfl) (hd 12 (by kernel_rfl))) (Eq.trans (b := vals 13) (by kernel_rfl) (hd 13 (by kernel_rfl)))) ((QL.out wq (bt HB57.out hC)).mono fun e w2 h => h))⟩
          · exact Free.ob_guard _ rfl 11 69 true rfl rfl fun vals wq hC hd => ⟨Eq.trans (b := vals 11) (by kernel_rfl) (hd 11 (by kernel_rfl)), (by obtain ⟨A14, k14, e14, rd14, le14, mx14⟩ := hd 14 (by kernel_rfl); exact Free.d_conv rfl (Eq.trans (b := vals 14) (by kernel_rfl) e14) (run_str (P := Try.prog) 23 9 5 Try.underlying23 Try.underlying5 Try.underlying9 A14 _ k14 _ LL rd14 rfl) (Below.refl _ _) rfl)⟩
          · exact Free.ob_guard _ rfl 11 69 true rfl rfl fun vals wq hC hd => ⟨Eq.trans (b := vals 11) (by kernel_rfl) (hd 11 (by kernel_rfl)), (by exact Free.d_move rfl (by kernel_rfl) rfl)⟩
          · exact Free.ob_guard _ rfl 11 69 true rfl rfl fun vals wq hC hd => ⟨Eq.trans (b := vals 11) (by kernel_rfl) (hd 11 (by kernel_rfl)), (by exact Free.d_conv rfl (Eq.trans (b := vals 16) (by kernel_rfl) (hd 16 (by kernel_rfl))) (run_str (P := Try.prog) 23 9 5 Try.underlying23 Try.underlying5 Try.underlying9 B m k _ r (HRR9 wq hC).rd (HRR9 wq hC).len) (Below.refl _ _) rfl)⟩
          · exact Free.ob_guard _ rfl 11 69 true rfl rfl fun vals wq hC hd => ⟨Eq.trans (b := vals 11) (by kernel_rfl) (hd 11 (by kernel_rfl)), (by exact Free.d_move rfl (by kernel_rfl) rfl)⟩
          · exact Free.ob_guard _ rfl 11 69 true rfl rfl fun vals wq hC hd => ⟨Eq.trans (b := vals 11) (by kernel_rfl) (hd 11 (by kernel_rfl)), (by exact Free.d_call Try.func18 (by kernel_rfl) (by kernel_rfl) rfl rfl (Free.arg1 (Eq.trans (b := vals 18) (by kernel_rfl) (hd 18 (by kernel_rfl)))) ((QRL.out wq (bt HB57.out hC)).mono fun e w2 h => h))⟩
          · exact Free.ob_guard _ rfl 11 69 true rfl rfl fun vals wq hC hd => ⟨Eq.trans (b := vals 11) (by kernel_rfl) (hd 11 (by kernel_rfl)), (by obtain ⟨A19, k19, e19, rd19, le19, mx19⟩ := hd 19 (by kernel_rfl); exact Free.d_conv rfl (Eq.trans (b := vals 19) (by kernel_rfl) e19) (run_str (P := Try.prog) 23 9 5 Try.underlying23 Try.underlying5 Try.underlying9 A19 _ k19 _ Y rd19 rfl) (Below.refl _ _) rfl)⟩
          · exact Free.ob_guard _ rfl 11 69 true rfl rfl fun vals wq hC hd => ⟨Eq.trans (b := vals 11) (by kernel_rfl) (hd 11 (by kernel_rfl)), (by exact Free.d_bin rfl (Eq.trans (b := vals 17) (by kernel_rfl) (hd 17 (by kernel_rfl))) (Eq.trans (b := vals 20) (by kernel_rfl) (hd 20 (by kernel_rfl))) (by go_simp) (by rw [run_add_str _ _ _ HSZ.out.2.2, HLN.out.2.2]) rfl)⟩
          · exact Free.ob_guard _ rfl 11 69 true rfl rfl fun vals wq hC hd => ⟨Eq.trans (b := vals 11) (by kernel_rfl) (hd 11 (by kernel_rfl)), (by exact Free.d_bin rfl (Eq.trans (b := vals 15) (by kernel_rfl) (hd 15 (by kernel_rfl))) (Eq.trans (b := vals 21) (by kernel_rfl) (hd 21 (by kernel_rfl))) (by go_simp) (by rw [run_eql_str]; simp) rfl)⟩
          · exact Free.ob_plain _ rfl rfl fun vals wq hC hd => (by exact Free.d_pick rfl (Eq.trans (b := vals 11) (by kernel_rfl) (hd 11 (by kernel_rfl))) (Eq.trans (b := vals 22) (by kernel_rfl) (hd 22 (by kernel_rfl))) rfl)
          · exact Free.ob_plain _ rfl rfl fun vals wq hC hd => (by exact Free.d_move rfl (Eq.trans (b := vals 23) (by kernel_rfl) (hd 23 (by kernel_rfl))) rfl)
          · exact Free.ob_guard _ rfl 24 82 true rfl rfl fun vals wq hC hd => ⟨Eq.trans (b := vals 24) (by kernel_rfl) (hd 24 (by kernel_rfl)), (by exact Free.d_call Try.func11 (by kernel_rfl) (by kernel_rfl) rfl rfl (show (#[] : Array Operand).map _ = #[] by simp) ((knows2_any wq).mono fun e w2 h => ⟨_, h.1, rfl, h.2⟩))⟩
          · exact Free.ob_plain _ rfl rfl fun vals wq hC hd => (by exact Free.d_pick rfl (Eq.trans (b := vals 24) (by kernel_rfl) (hd 24 (by kernel_rfl))) (Eq.trans (b := vals 25) (by kernel_rfl) (hd 25 (by kernel_rfl))) rfl)
          · exact Free.ob_plain _ rfl rfl fun vals wq hC hd => (by exact Free.d_assign rfl (Eq.trans (b := vals 26) (by kernel_rfl) (hd 26 (by kernel_rfl))) rfl)
        · intro vals wq hC hd
          have e0 : vals 0 = (.slice B m k) := hd 0 (by decide)
          have e1 : vals 1 = (sv s) := hd 1 (by decide)
          obtain ⟨A2, k2, e2, rd2, le2, mx2⟩ := hd 2 (by decide)
          have e3 : vals 3 = (sv LT) := hd 3 (by decide)
          have e4 : vals 4 = (.slice B m k) := hd 4 (by decide)
          have e5 : vals 5 = (sv r) := hd 5 (by decide)
          have e6 : vals 6 = (sv s) := hd 6 (by decide)
          obtain ⟨A7, k7, e7, rd7, le7, mx7⟩ := hd 7 (by decide)
          have e8 : vals 8 = (sv T) := hd 8 (by decide)
          have e9 : vals 9 = (sv LT) := hd 9 (by decide)
          have e10 : vals 10 = (.bool true) := hd 10 (by decide)
          have e11 : vals 11 = (.bool true) := hd 11 (by decide)
          have e12 : vals 12 = (.slice B m k) := hd 12 (by decide)
          have e13 : vals 13 = (.slice A n c) := hd 13 (by decide)
          obtain ⟨A14, k14, e14, rd14, le14, mx14⟩ := hd 14 (by decide)
          have e15 : vals 15 = (sv LL) := hd 15 (by decide)
          have e16 : vals 16 = (.slice B m k) := hd 16 (by decide)
          have e17 : vals 17 = (sv r) := hd 17 (by decide)
          have e18 : vals 18 = (.slice A n c) := hd 18 (by decide)
          obtain ⟨A19, k19, e19, rd19, le19, mx19⟩ := hd 19 (by decide)
          have e20 : vals 20 = (sv Y) := hd 20 (by decide)
          have e21 : vals 21 = (sv LL) := hd 21 (by decide)
          have e22 : vals 22 = (.bool true) := hd 22 (by decide)
          have e23 : vals 23 = (.bool true) := hd 23 (by decide)
          have e24 : vals 24 = (.bool true) := hd 24 (by decide)
          have e25 : vals 25 = (.bool true) := hd 25 (by decide)
          have e26 : vals 26 = (.bool true) := hd 26 (by decide)
          have e27 : vals 27 = (.bool true) := hd 27 (by decide)
          simp only [Free.frameOf, List.range, List.range.loop, List.foldl, Free.dstOf, List.getElem?_toArray, List.getElem?_cons_zero, List.getElem?_cons_succ, Option.bind_some, Act.put, List.setIfInBounds_toArray, List.set_cons_zero, List.set_cons_succ, e0, e1, e2, e3, e4, e5, e6, e7, e8, e9, e10, e11, e12, e13, e14, e15, e16, e17, e18, e19, e20, e21, e22, e23, e24, e25, e26, e27]
          refine wpList_nil ?_
          clear hd e0 e1 e2 e3 e4 e5 e6 e7 e8 e9 e10 e11 e12 e13 e14 e15 e16 e17 e18 e19 e20 e21 e22 e23 e24 e25 e26 e27
          have HBQ := Lib.hid (bt HB5.out (bt HB57.out hC))
          clear hC HRR9
          go_wp2
          go_ret
          exact ⟨rfl, HBQ.out⟩
    · have hbad : v < 0 ∨ 4611686018427387904 < v := by omega
      have HSZ := Lib.hid (show r.length + 0 ≤ 1000000 ∧ r.length + T.length ≤ 1000000 ∧ r.length + Y.length ≤ 1000000 from ⟨by omega, by omega, by omega⟩)
      have HLN := Lib.hid (And.intro True.intro HTY.out)
      have HNO := Lib.hid (show ∀ (A' : Option Addr) (n' c' : Nat) W, Calls Try.prog 12 #[.slice A' n' c', .int .i64 v] W _ from fun A' n' c' W => num_no A' n' c' v W v1 v2 hbad)
      clear lT lY hlr hok
      rcases (show v < 0 ∨ (0 ≤ v ∧ 4611686018427387904 < v) by omega) with h3 | ⟨h3, h4⟩
      all_goals
        clear hbad
        go_enter Try.func4, Try.ntmps4
        go_wp2_with fail
        refine HG.out.mono ?_
        rintro e w0 ⟨rfl, rfl⟩
        go_wp2_with (at_builtin; refine wl_app8 rfl (.tmp 25) (.tmp 26) rfl rfl (Own8.empty w (Nat.le_refl _)) rfl (hR.keep hb0) (by omega) hb0.size ?_; intro A4 n4 c4 w4 ho4 hb4 _)
        have HB4 := Lib.hid (hb0.trans hb4)
        clear hb4
        refine (HNO.out A4 n4 c4 _).mono ?_
        rintro e w5 ⟨rfl, rfl⟩
        go_wp2_with fail
        obtain ⟨w5, hw5⟩ : ∃ W, w4 = W := ⟨_, rfl⟩
        rw [hw5] at HB4 ⊢
        clear hw5
        have HB5 := Lib.hid HB4.out
        obtain ⟨w8, hw8⟩ : ∃ W, w5 = W := ⟨_, rfl⟩
        have HB57 : Hid (Below w5.heap.size w5 w8) := Lib.hid (by rw [← hw8]; exact Below.refl _ _)
        rw [hw8]
        clear hw8
        have HRR := Lib.hid (show ∀ W, Below w5.heap.size w5 W → Bs W B m k r from fun W h => HRR0.out W (bt HB5.out h))
        have QT := Lib.hid (show ∀ W, Below w5.heap.size w5 W → _ from fun W h => QT.out W (bt HB5.out h))
        have QRT := Lib.hid (show ∀ W, Below w5.heap.size w5 W → _ from fun W h => QRT.out W (bt HB5.out h))
        have QL := Lib.hid (show ∀ W, Below w5.heap.size w5 W → _ from fun W h => QL.out W (bt HB5.out h))
        have QRL := Lib.hid (show ∀ W, Below w5.heap.size w5 W → _ from fun W h => QRL.out W (bt HB5.out h))
        have HRR9 := fun (W : World) (h : Below w8.heap.size w8 W) => HRR.out W (bt HB57.out h)
        refine Free.wp_free_l 28 (fun W => Below w8.heap.size w8 W) [Free.kc (.slice B m k), Free.kc (sv s), Free.kr (LT.length) (LT.map bv), Free.kc (sv LT), Free.kc (.slice B m k), Free.kc (sv r), Free.kc (sv s), Free.kr (T.length) (T.map bv), Free.kc (sv T), Free.kc (sv LT), Free.kc (.bool true), Free.kc (.bool true), Free.kc (.slice B m k), Free.kc (.slice A n c), Free.kr (LL.length) (LL.map bv), Free.kc (sv LL), Free.kc (.slice B m k), Free.kc (sv r), Free.kc (.slice A n c), Free.kr (Y.length) (Y.map bv), Free.kc (sv Y), Free.kc (sv LL), Free.kc (.bool true), Free.kc (.bool true), Free.kc (.bool true), Free.kc (.bool true), Free.kc (.bool true), Free.kc (.bool true)] (by kernel_rfl) (by kernel_rfl) (by decide) (Below.refl _ _).drew (fun w w' h g => bt h g) ?_ ?_
        · refine Free.forall_succ (Free.forall_succ (Free.forall_succ (Free.forall_succ (Free.forall_succ (Free.forall_succ (Free.forall_succ (Free.forall_succ (Free.forall_succ (Free.forall_succ (Free.forall_succ (Free.forall_succ (Free.forall_succ (Free.forall_succ (Free.forall_succ (Free.forall_succ (Free.forall_succ (Free.forall_succ (Free.forall_succ (Free.forall_succ (Free.forall_succ (Free.forall_succ (Free.forall_succ (Free.forall_succ (Free.forall_succ (Free.forall_succ (Free.forall_succ (Free.forall_succ (Free.forall_zero) ?_) ?_) ?_) ?_) ?_) ?_) ?_) ?_) ?_) ?_) ?_) ?_) ?_) ?_) ?_) ?_) ?_) ?_) ?_) ?_) ?_) ?_) ?_) ?_) ?_) ?_) ?_) ?_
          · exact Free.ob_plain _ rfl rfl fun vals wq hC hd => (by exact Free.d_move rfl (by kernel_rfl) rfl)
          · exact Free.ob_plain _ rfl rfl fun vals wq hC hd => (by exact Free.d_move rfl (by kernel_rfl) rfl)
          · exact Free.ob_plain _ rfl rfl fun vals wq hC hd => (by exact Free.d_call Try.func15 (by kernel_rfl) (by kernel_rfl) rfl rfl (Free.arg2 (Eq.trans (b := vals 0) (by kernel_rfl) (hd 0 (by kernel_rfl))) (Eq.trans (b := vals 1) (by kernel_rfl) (hd 1 (by kernel_rfl)))) ((QT.out wq (bt HB57.out hC)).mono fun e w2 h => h))
          · exact Free.ob_plain _ rfl rfl fun vals wq hC hd => (by obtain ⟨A2, k2, e2, rd2, le2, mx2⟩ := hd 2 (by kernel_rfl); exact Free.d_conv rfl (Eq.trans (b := vals 2) (by kernel_rfl) e2) (run_str (P := Try.prog) 23 9 5 Try.underlying23 Try.underlying5 Try.underlying9 A2 _ k2 _ LT rd2 rfl) (Below.refl _ _) rfl)
          · exact Free.ob_plain _ rfl rfl fun vals wq hC hd => (by exact Free.d_move rfl (by kernel_rfl) rfl)
          · exact Free.ob_plain _ rfl rfl fun vals wq hC hd => (by exact Free.d_conv rfl (Eq.trans (b := vals 4) (by kernel_rfl) (hd 4 (by kernel_rfl))) (run_str (P := Try.prog) 23 9 5 Try.underlying23 Try.underlying5 Try.underlying9 B m k _ r (HRR9 wq hC).rd (HRR9 wq hC).len) (Below.refl _ _) rfl)
          · exact Free.ob_plain _ rfl rfl fun vals wq hC hd => (by exact Free.d_move rfl (by kernel_rfl) rfl)
          · exact Free.ob_plain _ rfl rfl fun vals wq hC hd => (by exact Free.d_call Try.func16 (by kernel_rfl) (by kernel_rfl) rfl rfl (Free.arg1 (Eq.trans (b := vals 6) (by kernel_rfl) (hd 6 (by kernel_rfl)))) ((QRT.out wq (bt HB57.out hC)).mono fun e w2 h => h))
          · exact Free.ob_plain _ rfl rfl fun vals wq hC hd => (by obtain ⟨A7, k7, e7, rd7, le7, mx7⟩ := hd 7 (by kernel_rfl); exact Free.d_conv rfl (Eq.trans (b := vals 7) (by kernel_rfl) e7) (run_str (P := Try.prog) 23 9 5 Try.underlying23 Try.underlying5 Try.underlying9 A7 _ k7 _ T rd7 rfl) (Below.refl _ _) rfl)
          · exact Free.ob_plain _ rfl rfl fun vals wq hC hd => (by exact Free.d_bin rfl (Eq.trans (b := vals 5) (by kernel_rfl) (hd 5 (by kernel_rfl))) (Eq.trans (b := vals 8) (by kernel_rfl) (hd 8 (by kernel_rfl))) (by go_simp) (by rw [run_add_str _ _ _ HSZ.out.2.1, HLN.out.2.1]) rfl)
          · exact Free.ob_plain _ rfl rfl fun vals wq hC hd => (by exact Free.d_bin rfl (Eq.trans (b := vals 3) (by kernel_rfl) (hd 3 (by kernel_rfl))) (Eq.trans (b := vals 9) (by kernel_rfl) (hd 9 (by kernel_rfl))) (by go_simp) (by rw [run_eql_str]; simp) rfl)
          · exact Free.ob_plain _ rfl rfl fun vals wq hC hd => (by exact Free.d_move rfl (Eq.trans (b := vals 10) (by kernel_rfl) (hd 10 (by kernel_rfl))) rfl)
          · exact Free.ob_guard _ rfl 11 69 true rfl rfl fun vals wq hC hd => ⟨Eq.trans (b := vals 11) (by kernel_rfl) (hd 11 (by kernel_rfl)), (by exact Free.d_move rfl (by kernel_rfl) rfl)⟩
          · exact Free.ob_guard _ rfl 11 69 true rfl rfl fun vals wq hC hd => ⟨Eq.trans (b := vals 11) (by kernel_rfl) (hd 11 (by kernel_rfl)), (by exact Free.d_move rfl (by kernel_rfl) rfl)⟩
          · exact Free.ob_guard _ rfl 11 69 true rfl rfl fun vals wq hC hd => ⟨Eq.trans (b := vals 11) (by kernel_rfl) (hd 11 (by kernel_rfl)), (by exact Free.d_call Try.func17 (by kernel_rfl) (by kernel_rfl) rfl rfl (Free.arg2 (Eq.trans (b := vals 12) (by kernel_rfl) (hd 12 (by kernel_rfl))) (Eq.trans (b := vals 13) (by kernel_rfl) (hd 13 (by kernel_rfl)))) ((QL.out wq (bt HB57.out hC)).mono fun e w2 h => h))⟩
          · exact Free.ob_guard _ rfl 11 69 true rfl rfl fun vals wq hC hd => ⟨Eq.trans (b := vals 11) (by kernel_rfl) (hd 11 (by kernel_rfl)), (by obtain ⟨A14, k14, e14, rd14, le14, mx14⟩ := hd 14 (by kernel_rfl); exact Free.d_conv rfl (Eq.trans (b := vals 14) (by kernel_rfl) e14) (run_str (P := Try.prog) 23 9 5 Try.underlying23 Try.underlying5 Try.underlying9 A14 _ k14 _ LL rd14 rfl) (Below.refl _ _) rfl)⟩
          · exact Free.ob_guard _ rfl 11 69 true rfl rfl fun vals wq hC hd => ⟨Eq.trans (b := vals 11) (by kernel_rfl) (hd 11 (by kernel_rfl)), (by exact Free.d_move rfl (by kernel_rfl) rfl)⟩
          · exact Free.ob_guard _ rfl 11 69 true rfl rfl fun vals wq hC hd => ⟨Eq.trans (b := vals 11) (by kernel_rfl) (hd 11 (by kernel_rfl)), (by exact Free.d_conv rfl (Eq.trans (b := vals 16) (by kernel_rfl) (hd 16 (by kernel_rfl))) (run_str (P := Try.prog) 23 9 5 Try.underlying23 Try.underlying5 Try.underlying9 B m k _ r (HRR9 wq hC).rd (HRR9 wq hC).len) (Below.refl _ _) rfl)⟩
          · exact Free.ob_guard _ rfl 11 69 true rfl rfl fun vals wq hC hd => ⟨Eq.trans (b := vals 11) (by kernel_rfl) (hd 11 (by kernel_rfl)), (by exact Free.d_move rfl (by kernel_rfl) rfl)⟩
          · exact Free.ob_guard _ rfl 11 69 true rfl rfl fun vals wq hC hd => ⟨Eq.trans (b := vals 11) (by kernel_rfl) (hd 11 (by kernel_rfl)), (by exact Free.d_call Try.func18 (by kernel_rfl) (by kernel_rfl) rfl rfl (Free.arg1 (Eq.trans (b := vals 18) (by kernel_rfl) (hd 18 (by kernel_rfl)))) ((QRL.out wq (bt HB57.out hC)).mono fun e w2 h => h))⟩
          · exact Free.ob_guard _ rfl 11 69 true rfl rfl fun vals wq hC hd => ⟨Eq.trans (b := vals 11) (by kernel_rfl) (hd 11 (by kernel_rfl)), (by obtain ⟨A19, k19, e19, rd19, le19, mx19⟩ := hd 19 (by kernel_rfl); exact Free.d_conv rfl (Eq.trans (b := vals 19) (by kernel_rfl) e19) (run_str (P := Try.prog) 23 9 5 Try.underlying23 Try.underlying5 Try.underlying9 A19 _ k19 _ Y rd19 rfl) (Below.refl _ _) rfl)⟩
          · exact Free.ob_guard _ rfl 11 69 true rfl rfl fun vals wq hC hd => ⟨Eq.trans (b := vals 11) (by kernel_rfl) (hd 11 (by kernel_rfl)), (by exact Free.d_bin rfl (Eq.trans (b := vals 17) (by kernel_rfl) (hd 17 (by kernel_rfl))) (Eq.trans (b := vals 20) (by kernel_rfl) (hd 20 (by kernel_rfl))) (by go_simp) (by rw [run_add_str _ _ _ HSZ.out.2.2, HLN.out.2.2]) rfl)⟩
          · exact Free.ob_guard _ rfl 11 69 true rfl rfl fun vals wq hC hd => ⟨Eq.trans (b := vals 11) (by kernel_rfl) (hd 11 (by kernel_rfl)), (by exact Free.d_bin rfl (Eq.trans (b := vals 15) (by kernel_rfl) (hd 15 (by kernel_rfl))) (Eq.trans (b := vals 21) (by kernel_rfl) (hd 21 (by kernel_rfl))) (by go_simp) (by rw [run_eql_str]; simp) rfl)⟩
          · exact Free.ob_plain _ rfl rfl fun vals wq hC hd => (by exact Free.d_pick rfl (Eq.trans (b := vals 11) (by kernel_rfl) (hd 11 (by kernel_rfl))) (Eq.trans (b := vals 22) (by kernel_rfl) (hd 22 (by kernel_rfl))) rfl)
          · exact Free.ob_plain _ rfl rfl fun vals wq hC hd => (by exact Free.d_move rfl (Eq.trans (b := vals 23) (by kernel_rfl) (hd 23 (by kernel_rfl))) rfl)
          · exact Free.ob_guard _ rfl 24 82 true rfl rfl fun vals wq hC hd => ⟨Eq.trans (b := vals 24) (by kernel_rfl) (hd 24 (by kernel_rfl)), (by exact Free.d_call Try.func11 (by kernel_rfl) (by kernel_rfl) rfl rfl (show (#[] : Array Operand).map _ = #[] by simp) ((knows2_any wq).mono fun e w2 h => ⟨_, h.1, rfl, h.2⟩))⟩
          · exact Free.ob_plain _ rfl rfl fun vals wq hC hd => (by exact Free.d_pick rfl (Eq.trans (b := vals 24) (by kernel_rfl) (hd 24 (by kernel_rfl))) (Eq.trans (b := vals 25) (by kernel_rfl) (hd 25 (by kernel_rfl))) rfl)
          · exact Free.ob_plain _ rfl rfl fun vals wq hC hd => (by exact Free.d_assign rfl (Eq.trans (b := vals 26) (by kernel_rfl) (hd 26 (by kernel_rfl))) rfl)
        · intro vals wq hC hd
          have e0 : vals 0 = (.slice B m k) := hd 0 (by decide)
          have e1 : vals 1 = (sv s) := hd 1 (by decide)
          obtain ⟨A2, k2, e2, rd2, le2, mx2⟩ := hd 2 (by decide)
          have e3 : vals 3 = (sv LT) := hd 3 (by decide)
          have e4 : vals 4 = (.slice B m k) := hd 4 (by decide)
          have e5 : vals 5 = (sv r) := hd 5 (by decide)
          have e6 : vals 6 = (sv s) := hd 6 (by decide)
          obtain ⟨A7, k7, e7, rd7, le7, mx7⟩ := hd 7 (by decide)
          have e8 : vals 8 = (sv T) := hd 8 (by decide)
          have e9 : vals 9 = (sv LT) := hd 9 (by decide)
          have e10 : vals 10 = (.bool true) := hd 10 (by decide)
          have e11 : vals 11 = (.bool true) := hd 11 (by decide)
          have e12 : vals 12 = (.slice B m k) := hd 12 (by decide)
          have e13 : vals 13 = (.slice A n c) := hd 13 (by decide)
          obtain ⟨A14, k14, e14, rd14, le14, mx14⟩ := hd 14 (by decide)
          have e15 : vals 15 = (sv LL) := hd 15 (by decide)
          have e16 : vals 16 = (.slice B m k) := hd 16 (by decide)
          have e17 : vals 17 = (sv r) := hd 17 (by decide)
          have e18 : vals 18 = (.slice A n c) := hd 18 (by decide)
          obtain ⟨A19, k19, e19, rd19, le19, mx19⟩ := hd 19 (by decide)
          have e20 : vals 20 = (sv Y) := hd 20 (by decide)
          have e21 : vals 21 = (sv LL) := hd 21 (by decide)
          have e22 : vals 22 = (.bool true) := hd 22 (by decide)
          have e23 : vals 23 = (.bool true) := hd 23 (by decide)
          have e24 : vals 24 = (.bool true) := hd 24 (by decide)
          have e25 : vals 25 = (.bool true) := hd 25 (by decide)
          have e26 : vals 26 = (.bool true) := hd 26 (by decide)
          have e27 : vals 27 = (.bool true) := hd 27 (by decide)
          simp only [Free.frameOf, List.range, List.range.loop, List.foldl, Free.dstOf, List.getElem?_toArray, List.getElem?_cons_zero, List.getElem?_cons_succ, Option.bind_some, Act.put, List.setIfInBounds_toArray, List.set_cons_zero, List.set_cons_succ, e0, e1, e2, e3, e4, e5, e6, e7, e8, e9, e10, e11, e12, e13, e14, e15, e16, e17, e18, e19, e20, e21, e22, e23, e24, e25, e26, e27]
          refine wpList_nil ?_
          clear hd e0 e1 e2 e3 e4 e5 e6 e7 e8 e9 e10 e11 e12 e13 e14 e15 e16 e17 e18 e19 e20 e21 e22 e23 e24 e25 e26 e27
          have HBQ := Lib.hid (bt HB5.out (bt HB57.out hC))
          clear hC HRR9
          go_wp2
          go_ret
          exact ⟨rfl, HBQ.out⟩
end Go.Proofs.Ytkkliblndglniaa
