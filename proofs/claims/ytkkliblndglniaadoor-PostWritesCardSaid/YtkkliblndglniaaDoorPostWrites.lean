/- PostWrites: the walk of the law. -/
import Derived.Test.YtkkliblndglniaaDoorPostDig
import Derived.Test.YtkkliblndglniaaDoorPost4
import Derived.OpenShut
namespace Go.Proofs.YtkkliblndglniaaDoor
set_option linter.unusedVariables false
open Go.RowKit

set_option maxRecDepth 100000 in
set_option maxHeartbeats 16000000 in
theorem postwrites_any (A : Option Addr) (n c : Nat) (l : List Int) (w : World) (hr : Rd w w.heap.size A (l.map iv)) (hn : l.length = n) (hc : n ≤ c) (hm : c ≤ maxLen) (hwf : ∀ z ∈ l, (Lit.int .i64 z).wf = true) (ht : Tabs w) :
    Calls Tryd.prog 3 #[.slice A n c] w (RetB true w) := by
  have hZ : Zs w A n c l := ⟨hr, hn, hc, hm, fun z hz => Go.bounds_i64 (hwf z hz)⟩
  rw [maxLen_eq] at hm
  have HT := Lib.hid ht
  clear hr hn hwf ht
  by_cases h1 : 300 < n
  · have G := Lib.hid (decide_eq_true h1)
    go_enter Tryd.func3, Tryd.ntmps3
    go_wp2_with fail
    refine (great9_any A n c w hc hm).mono ?_
    rintro e w0 ⟨rfl, rfl⟩
    rw [G.out]
    go_wp2_with fail
    refine (knows9_any _).mono ?_
    rintro e w5 ⟨rfl, hb5⟩
    have HB5 := Lib.hid hb5
    clear hb5
    go_wp2
    go_ret
    exact ⟨rfl, HB5.out⟩
  · have G := Lib.hid (decide_eq_false h1)
    cases hrl : Post.right l with
    | true =>
      have HR := Lib.hid hrl
      clear hrl
      obtain ⟨X, hX⟩ : ∃ X, Post.write l = X := ⟨_, rfl⟩
      obtain ⟨D, hD⟩ : ∃ D, seal_ 2 X = D := ⟨_, rfl⟩
      have q1 := fun (W : World) (h : Zs W A n c l) => write_yes A n c l W h HR.out
      have q2 := fun (W : World) (h : Zs W A n c l) (h2 : Tabs W) => digest_yes A n c l W h HR.out h2
      have q3 := fun (W : World) (h : Zs W A n c l) => (rwrite_any A n c l W h HR.out).mono fun e w2 h => h.krB
      have q4 := fun (W : World) (h : Zs W A n c l) => rdigest_any A n c l W h HR.out
      unfold WritePost at q1
      rw [hX] at q1 q2 q3 q4
      rw [hD] at q2
      unfold SealPost at q4
      rw [hD] at q4
      unfold KrB at q3
      have Q1 := Lib.hid q1
      have Q2 := Lib.hid q2
      have Q3 := Lib.hid q3
      have Q4 := Lib.hid q4
      clear q1 q2 q3 q4 hX hD
      go_enter Tryd.func3, Tryd.ntmps3
      go_wp2_with fail
      refine (great9_any A n c w hc hm).mono ?_
      rintro e w0 ⟨rfl, rfl⟩
      rw [G.out]
      go_wp2_with fail
      refine (Q1.out w hZ).mono ?_
      rintro e w1 ⟨A1, n1, c1, rfl, ho1, hb1⟩
      have HB1 := Lib.hid hb1
      clear hb1
      go_wp2_with fail
      refine (Q2.out w1 (hZ.keep HB1.out) (HT.out.below HB1.out)).mono ?_
      rintro e w2 ⟨rfl, hb2⟩
      have HB2 := Lib.hid (bt HB1.out hb2)
      have HX1 := Lib.hid (show ∀ W, Below w2.heap.size w2 W → Bs W A1 n1 c1 X from fun W h => (ho1.bs.keep hb2).keep h)
      have QW := Lib.hid (show ∀ W, Below w2.heap.size w2 W → _ from fun W h => Q3.out W (hZ.keep (bt HB2.out h)))
      have QD := Lib.hid (show ∀ W, Below w2.heap.size w2 W → Calls Tryd.prog 11 #[.slice A n c] W fun e w2 => ∃ v, e = .returned v ∧ v = sv D ∧ Below W.heap.size W w2 from fun W h => (Q4.out W (hZ.keep (bt HB2.out h))).mono fun e w2 h => ⟨_, h.1, rfl, h.2⟩)
      clear hb2 ho1
      go_wp2_with fail
      refine (rright9_any A n c l _ (hZ.keep HB2.out)).mono ?_
      rintro e w4 ⟨rfl, hb4⟩
      have HB4 := Lib.hid (bt HB2.out hb4)
      have HK4 := Lib.hid hb4
      clear hb4
      rw [HR.out]
      go_wp2_with fail
      refine (right_any A n c l _ (hZ.keep HB4.out)).mono ?_
      rintro e w5 ⟨rfl, rfl⟩
      rw [HR.out]
      have HX1 := Lib.hid (show ∀ W, Below w4.heap.size w4 W → Bs W A1 n1 c1 X from fun W h => HX1.out W (bt HK4.out h))
      have QW := Lib.hid (show ∀ W, Below w4.heap.size w4 W → _ from fun W h => QW.out W (bt HK4.out h))
      have QD := Lib.hid (show ∀ W, Below w4.heap.size w4 W → _ from fun W h => QD.out W (bt HK4.out h))
      go_wp2_with fail
      refine Free.wp_free_l 24 (fun W => Below w4.heap.size w4 W) [Free.kc (.slice A1 n1 c1), Free.kc (sv X), Free.kc (.slice A n c), Free.kr (X.length) (X.map bv), Free.kc (sv X), Free.kc (.bool true), Free.kc (.bool true), Free.kc (.int .i64 0), Free.kc (.bool true), Free.kc (.bool true), Free.kc (.bool true), Free.kc (sv D), Free.kc (.slice A n c), Free.kc (sv D), Free.kc (.bool true), Free.kc (.bool true), Free.kc (.bool true), Free.kc (.int .i64 0), Free.kc (.bool true), Free.kc (.bool true), Free.kc (.bool true), Free.kc (.bool true), Free.kc (.bool true), Free.kc (.bool true)] (by kernel_rfl) (by kernel_rfl) (by decide) (Below.refl _ _).drew (fun w w' h g => bt h g) ?_ ?_
      · refine Free.forall_succ (Free.forall_succ (Free.forall_succ (Free.forall_succ (Free.forall_succ (Free.forall_succ (Free.forall_succ (Free.forall_succ (Free.forall_succ (Free.forall_succ (Free.forall_succ (Free.forall_succ (Free.forall_succ (Free.forall_succ (Free.forall_succ (Free.forall_succ (Free.forall_succ (Free.forall_succ (Free.forall_succ (Free.forall_succ (Free.forall_succ (Free.forall_succ (Free.forall_succ (Free.forall_succ (Free.forall_zero) ?_) ?_) ?_) ?_) ?_) ?_) ?_) ?_) ?_) ?_) ?_) ?_) ?_) ?_) ?_) ?_) ?_) ?_) ?_) ?_) ?_) ?_) ?_) ?_
        · exact Free.ob_plain _ rfl rfl fun vals wq hC hd => (by exact Free.d_move rfl (by kernel_rfl) rfl)
        · exact Free.ob_plain _ rfl rfl fun vals wq hC hd => (by exact Free.d_conv rfl (Eq.trans (b := vals 0) (by kernel_rfl) (hd 0 (by kernel_rfl))) (run_str (P := Tryd.prog) 25 9 5 Tryd.underlying25 Tryd.underlying5 Tryd.underlying9 A1 _ c1 _ X (HX1.out wq hC).rd (HX1.out wq hC).len) (Below.refl _ _) rfl)
        · exact Free.ob_plain _ rfl rfl fun vals wq hC hd => (by exact Free.d_move rfl (by kernel_rfl) rfl)
        · exact Free.ob_plain _ rfl rfl fun vals wq hC hd => (by exact Free.d_call Tryd.func10 (by kernel_rfl) (by kernel_rfl) rfl rfl (Free.arg1 (Eq.trans (b := vals 2) (by kernel_rfl) (hd 2 (by kernel_rfl)))) ((QW.out wq hC).mono fun e w2 h => h))
        · exact Free.ob_plain _ rfl rfl fun vals wq hC hd => (by obtain ⟨A3, k3, e3, rd3, le3, mx3⟩ := hd 3 (by kernel_rfl); exact Free.d_conv rfl (Eq.trans (b := vals 3) (by kernel_rfl) e3) (run_str (P := Tryd.prog) 25 9 5 Tryd.underlying25 Tryd.underlying5 Tryd.underlying9 A3 _ k3 _ X rd3 rfl) (Below.refl _ _) rfl)
        · exact Free.ob_plain _ rfl rfl fun vals wq hC hd => (by exact Free.d_bin rfl (Eq.trans (b := vals 1) (by kernel_rfl) (hd 1 (by kernel_rfl))) (Eq.trans (b := vals 4) (by kernel_rfl) (hd 4 (by kernel_rfl))) (by go_simp) (by rw [run_eql_str]; simp) rfl)
        · exact Free.ob_plain _ rfl rfl fun vals wq hC hd => (by exact Free.d_move rfl (Eq.trans (b := vals 5) (by kernel_rfl) (hd 5 (by kernel_rfl))) rfl)
        · exact Free.ob_guard _ rfl 6 53 true rfl rfl fun vals wq hC hd => ⟨Eq.trans (b := vals 6) (by kernel_rfl) (hd 6 (by kernel_rfl)), (by exact Free.d_move rfl (by kernel_rfl) rfl)⟩
        · exact Free.ob_guard _ rfl 6 53 true rfl rfl fun vals wq hC hd => ⟨Eq.trans (b := vals 6) (by kernel_rfl) (hd 6 (by kernel_rfl)), (by exact Free.d_bin rfl (Eq.trans (b := vals 7) (by kernel_rfl) (hd 7 (by kernel_rfl))) (show _ = (.int .i64 0 : Value) from rfl) (by go_simp) (by first | (go_simp; done) | (go_simp; rw [IntWalk.u32_in _ (by omega)]) | (go_simp; rw [IntWalk.i64_in _ (by omega)]) | (go_simp; rw [IntWalk.u8_in _ (by omega)]) | (go_simp; rw [IntKind.wrap_u32]; exact nv_add _ _)) rfl)⟩
        · exact Free.ob_plain _ rfl rfl fun vals wq hC hd => (by exact Free.d_pick rfl (Eq.trans (b := vals 6) (by kernel_rfl) (hd 6 (by kernel_rfl))) (Eq.trans (b := vals 8) (by kernel_rfl) (hd 8 (by kernel_rfl))) rfl)
        · exact Free.ob_plain _ rfl rfl fun vals wq hC hd => (by exact Free.d_move rfl (Eq.trans (b := vals 9) (by kernel_rfl) (hd 9 (by kernel_rfl))) rfl)
        · exact Free.ob_guard _ rfl 10 57 true rfl rfl fun vals wq hC hd => ⟨Eq.trans (b := vals 10) (by kernel_rfl) (hd 10 (by kernel_rfl)), (by exact Free.d_move rfl (by kernel_rfl) rfl)⟩
        · exact Free.ob_guard _ rfl 10 57 true rfl rfl fun vals wq hC hd => ⟨Eq.trans (b := vals 10) (by kernel_rfl) (hd 10 (by kernel_rfl)), (by exact Free.d_move rfl (by kernel_rfl) rfl)⟩
        · exact Free.ob_guard _ rfl 10 57 true rfl rfl fun vals wq hC hd => ⟨Eq.trans (b := vals 10) (by kernel_rfl) (hd 10 (by kernel_rfl)), (by exact Free.d_call Tryd.func11 (by kernel_rfl) (by kernel_rfl) rfl rfl (Free.arg1 (Eq.trans (b := vals 12) (by kernel_rfl) (hd 12 (by kernel_rfl)))) ((QD.out wq hC).mono fun e w2 h => h))⟩
        · exact Free.ob_guard _ rfl 10 57 true rfl rfl fun vals wq hC hd => ⟨Eq.trans (b := vals 10) (by kernel_rfl) (hd 10 (by kernel_rfl)), (by exact Free.d_bin rfl (Eq.trans (b := vals 11) (by kernel_rfl) (hd 11 (by kernel_rfl))) (Eq.trans (b := vals 13) (by kernel_rfl) (hd 13 (by kernel_rfl))) (by go_simp) (by rw [run_eql_str]; simp) rfl)⟩
        · exact Free.ob_plain _ rfl rfl fun vals wq hC hd => (by exact Free.d_pick rfl (Eq.trans (b := vals 10) (by kernel_rfl) (hd 10 (by kernel_rfl))) (Eq.trans (b := vals 14) (by kernel_rfl) (hd 14 (by kernel_rfl))) rfl)
        · exact Free.ob_plain _ rfl rfl fun vals wq hC hd => (by exact Free.d_move rfl (Eq.trans (b := vals 15) (by kernel_rfl) (hd 15 (by kernel_rfl))) rfl)
        · exact Free.ob_guard _ rfl 16 63 true rfl rfl fun vals wq hC hd => ⟨Eq.trans (b := vals 16) (by kernel_rfl) (hd 16 (by kernel_rfl)), (by exact Free.d_move rfl (by kernel_rfl) rfl)⟩
        · exact Free.ob_guard _ rfl 16 63 true rfl rfl fun vals wq hC hd => ⟨Eq.trans (b := vals 16) (by kernel_rfl) (hd 16 (by kernel_rfl)), (by exact Free.d_bin rfl (Eq.trans (b := vals 17) (by kernel_rfl) (hd 17 (by kernel_rfl))) (show _ = (.int .i64 0 : Value) from rfl) (by go_simp) (by first | (go_simp; done) | (go_simp; rw [IntWalk.u32_in _ (by omega)]) | (go_simp; rw [IntWalk.i64_in _ (by omega)]) | (go_simp; rw [IntWalk.u8_in _ (by omega)]) | (go_simp; rw [IntKind.wrap_u32]; exact nv_add _ _)) rfl)⟩
        · exact Free.ob_plain _ rfl rfl fun vals wq hC hd => (by exact Free.d_pick rfl (Eq.trans (b := vals 16) (by kernel_rfl) (hd 16 (by kernel_rfl))) (Eq.trans (b := vals 18) (by kernel_rfl) (hd 18 (by kernel_rfl))) rfl)
        · exact Free.ob_plain _ rfl rfl fun vals wq hC hd => (by exact Free.d_move rfl (Eq.trans (b := vals 19) (by kernel_rfl) (hd 19 (by kernel_rfl))) rfl)
        · exact Free.ob_guard _ rfl 20 67 true rfl rfl fun vals wq hC hd => ⟨Eq.trans (b := vals 20) (by kernel_rfl) (hd 20 (by kernel_rfl)), (by exact Free.d_call Tryd.func5 (by kernel_rfl) (by kernel_rfl) rfl rfl (show (#[] : Array Operand).map _ = #[] by simp) ((knows9_any wq).mono fun e w2 h => ⟨_, h.1, rfl, h.2⟩))⟩
        · exact Free.ob_plain _ rfl rfl fun vals wq hC hd => (by exact Free.d_pick rfl (Eq.trans (b := vals 20) (by kernel_rfl) (hd 20 (by kernel_rfl))) (Eq.trans (b := vals 21) (by kernel_rfl) (hd 21 (by kernel_rfl))) rfl)
        · exact Free.ob_plain _ rfl rfl fun vals wq hC hd => (by exact Free.d_assign rfl (Eq.trans (b := vals 22) (by kernel_rfl) (hd 22 (by kernel_rfl))) rfl)
      · intro vals wq hC hd
        have e0 : vals 0 = (.slice A1 n1 c1) := hd 0 (by decide)
        have e1 : vals 1 = (sv X) := hd 1 (by decide)
        have e2 : vals 2 = (.slice A n c) := hd 2 (by decide)
        obtain ⟨A3, k3, e3, rd3, le3, mx3⟩ := hd 3 (by decide)
        have e4 : vals 4 = (sv X) := hd 4 (by decide)
        have e5 : vals 5 = (.bool true) := hd 5 (by decide)
        have e6 : vals 6 = (.bool true) := hd 6 (by decide)
        have e7 : vals 7 = (.int .i64 0) := hd 7 (by decide)
        have e8 : vals 8 = (.bool true) := hd 8 (by decide)
        have e9 : vals 9 = (.bool true) := hd 9 (by decide)
        have e10 : vals 10 = (.bool true) := hd 10 (by decide)
        have e11 : vals 11 = (sv D) := hd 11 (by decide)
        have e12 : vals 12 = (.slice A n c) := hd 12 (by decide)
        have e13 : vals 13 = (sv D) := hd 13 (by decide)
        have e14 : vals 14 = (.bool true) := hd 14 (by decide)
        have e15 : vals 15 = (.bool true) := hd 15 (by decide)
        have e16 : vals 16 = (.bool true) := hd 16 (by decide)
        have e17 : vals 17 = (.int .i64 0) := hd 17 (by decide)
        have e18 : vals 18 = (.bool true) := hd 18 (by decide)
        have e19 : vals 19 = (.bool true) := hd 19 (by decide)
        have e20 : vals 20 = (.bool true) := hd 20 (by decide)
        have e21 : vals 21 = (.bool true) := hd 21 (by decide)
        have e22 : vals 22 = (.bool true) := hd 22 (by decide)
        have e23 : vals 23 = (.bool true) := hd 23 (by decide)
        simp only [Free.frameOf, List.range, List.range.loop, List.foldl, Free.dstOf, List.getElem?_toArray, List.getElem?_cons_zero, List.getElem?_cons_succ, Option.bind_some, Act.put, List.setIfInBounds_toArray, List.set_cons_zero, List.set_cons_succ, e0, e1, e2, e3, e4, e5, e6, e7, e8, e9, e10, e11, e12, e13, e14, e15, e16, e17, e18, e19, e20, e21, e22, e23]
        refine wpList_nil ?_
        clear hd e0 e1 e2 e3 e4 e5 e6 e7 e8 e9 e10 e11 e12 e13 e14 e15 e16 e17 e18 e19 e20 e21 e22 e23
        have HBQ := Lib.hid (bt HB4.out hC)
        clear hC
        go_wp2
        go_ret
        exact ⟨rfl, HBQ.out⟩
    | false =>
      have HR := Lib.hid hrl
      clear hrl
      go_enter Tryd.func3, Tryd.ntmps3
      go_wp2_with fail
      refine (great9_any A n c w hc hm).mono ?_
      rintro e w0 ⟨rfl, rfl⟩
      rw [G.out]
      go_wp2_with fail
      refine (write_no A n c l w hZ HR.out).mono ?_
      rintro e w1 ⟨rfl, rfl⟩
      go_wp2_with fail
      refine (digest_no A n c l w hZ HR.out).mono ?_
      rintro e w2 ⟨rfl, hb2⟩
      have HB2 := Lib.hid hb2
      clear hb2
      have es : ((str []).toList == ([] : List UInt8)) = true := by rw [str_toList]; rfl
      go_wp2_with fail
      refine (rright9_any A n c l _ (hZ.keep HB2.out)).mono ?_
      rintro e w4 ⟨rfl, hb4⟩
      have HB4 := Lib.hid (bt HB2.out hb4)
      have HK4 := Lib.hid hb4
      clear hb4
      rw [HR.out]
      go_wp2_with fail
      refine (right_any A n c l _ (hZ.keep HB4.out)).mono ?_
      rintro e w5 ⟨rfl, rfl⟩
      rw [HR.out]
      go_wp2_with fail
      refine (knows9_any _).mono ?_
      rintro e w5 ⟨rfl, hb5⟩
      have HB5 := Lib.hid (bt HB4.out hb5)
      clear hb5
      go_wp2
      go_ret
      exact ⟨rfl, HB5.out⟩
end Go.Proofs.YtkkliblndglniaaDoor
