/- PostApart: the walk of the law. -/
import Derived.Test.YtkkliblndglniaaPost4
import Derived.OpenShut
namespace Go.Proofs.Ytkkliblndglniaa
set_option linter.unusedVariables false
open Go.RowKit

/-- x[:j], as a run. -/
theorem run_cut_hi' {w : World} (A : Option Addr) (n c j : Nat) (hj : j ≤ n) (hnc : n ≤ c) (B : Nat) (xs : List Value) (hr : Rd w B A xs) :
    ∃ A', (Instr.sliceAt 23 (.slice A n c) none (some (.int .i64 (j : Int))) none).run Try.prog w = .ok (.slice A' j c) w ∧ Rd w B A' (xs.take j) := by
  have hu' : Try.prog.underlying 23 = some (.slice (Try.prog.elem 23)) := by kernel_rfl
  have hr1 := run_slice_h (P := Try.prog) w 23 A n c hu' .i64 (j : Int) (by omega) (by omega)
  rw [show Try.prog.elem 23 = 5 by kernel_rfl, run_sizeOf_of 5 1 size_u8, Result.andThen_ok] at hr1
  refine ⟨_, by rw [run_sliceAt_slice w 23 _ _ _ _ hu', hr1]; simp only [Int.toNat_natCast]; rfl, ?_⟩
  split
  · exact hr.take _
  · have := (hr.take j).drop 0
    simpa using this
set_option maxRecDepth 100000 in
set_option maxHeartbeats 16000000 in
theorem postapart_any (A : Option Addr) (n c : Nat) (la : List Int) (B : Option Addr) (m k : Nat) (lb : List Int) (w : World) (hr : Rd w w.heap.size A (la.map iv)) (hn : la.length = n) (hc : n ≤ c) (hm : c ≤ maxLen) (hwf : ∀ z ∈ la, (Lit.int .i64 z).wf = true)
    (hr2 : Rd w w.heap.size B (lb.map iv)) (hn2 : lb.length = m) (hk : m ≤ k) (hk2 : k ≤ maxLen) (hwf2 : ∀ z ∈ lb, (Lit.int .i64 z).wf = true) :
    Calls Try.prog 9 #[.slice A n c, .slice B m k] w (RetB true w) := by
  have hA : Zs w A n c la := ⟨hr, hn, hc, hm, fun z hz => Go.bounds_i64 (hwf z hz)⟩
  have hB : Zs w B m k lb := ⟨hr2, hn2, hk, hk2, fun z hz => Go.bounds_i64 (hwf2 z hz)⟩
  rw [maxLen_eq] at hm hk2
  clear hr hn hwf hr2 hn2 hwf2
  by_cases h1 : 300 < n
  · have G := Lib.hid (decide_eq_true h1)
    go_enter Try.func9, Try.ntmps9
    go_wp2_with fail
    refine (great9_any A n c w hc hm).mono ?_
    rintro e w0 ⟨rfl, rfl⟩
    rw [G.out]
    go_wp2_with fail
    refine (knows9_any _).mono ?_
    rintro e w1 ⟨rfl, hb1⟩
    have HB1 := Lib.hid hb1
    clear hb1
    go_wp2
    go_ret
    exact ⟨rfl, HB1.out⟩
  · have G := Lib.hid (decide_eq_false h1)
    by_cases h2 : 300 < m
    · have G2 := Lib.hid (decide_eq_true h2)
      go_enter Try.func9, Try.ntmps9
      go_wp2_with fail
      refine (great9_any A n c w hc hm).mono ?_
      rintro e w0 ⟨rfl, rfl⟩
      rw [G.out]
      go_wp2_with fail
      refine (great9_any B m k w hk hk2).mono ?_
      rintro e w0 ⟨rfl, rfl⟩
      rw [G2.out]
      go_wp2_with fail
      refine (knows9_any _).mono ?_
      rintro e w1 ⟨rfl, hb1⟩
      have HB1 := Lib.hid hb1
      clear hb1
      go_wp2
      go_ret
      exact ⟨rfl, HB1.out⟩
    · have G2 := Lib.hid (decide_eq_false h2)
      cases hra : Post.right la with
      | true =>
        have HRla := Lib.hid hra
        clear hra
        cases hrb : Post.right lb with
        | true =>
          have HRlb := Lib.hid hrb
          clear hrb
          obtain ⟨X, hX⟩ : ∃ X, Post.write la = X := ⟨_, rfl⟩
          obtain ⟨Y, hY⟩ : ∃ X, Post.write lb = X := ⟨_, rfl⟩
          have hap := Post.apart HRla.out HRlb.out
          rw [hX, hY] at hap
          have HAP := Lib.hid hap
          have HXY := Lib.hid (And.intro hX hY)
          clear hap hX hY
          go_enter Try.func9, Try.ntmps9
          go_wp2_with fail
          refine (great9_any A n c w hc hm).mono ?_
          rintro e w0 ⟨rfl, rfl⟩
          rw [G.out]
          go_wp2_with fail
          refine (great9_any B m k w hk hk2).mono ?_
          rintro e w0 ⟨rfl, rfl⟩
          rw [G2.out]
          go_wp2_with fail
          refine (write_yes A n c la _ hA HRla.out).mono ?_
          rintro e w1 ⟨A1, n1, c1, rfl, ho1, hb1⟩
          have HB1 := Lib.hid hb1
          go_wp2_with fail
          refine (write_yes B m k lb _ (hB.keep HB1.out) HRlb.out).mono ?_
          rintro e w2 ⟨A2, n2, c2, rfl, ho2, hb2⟩
          have HB2 := Lib.hid (bt HB1.out hb2)
          rw [HXY.out.1] at ho1
          rw [HXY.out.2] at ho2
          have hx1 := ho1.bs.keep hb2
          have hy1 := ho2.bs
          clear hb1 hb2 ho1 ho2
          go_wp2_with fail
          refine (sameZ_any A n c la B m k lb _ (hA.keep HB2.out) (hB.keep HB2.out)).mono ?_
          rintro e w3 ⟨rfl, hb3⟩
          have HB3 := Lib.hid (bt HB2.out hb3)
          have HX1 := Lib.hid (show ∀ W, Below w3.heap.size w3 W → Bs W A1 n1 c1 X from fun W h => (hx1.keep hb3).keep h)
          have HY1 := Lib.hid (show ∀ W, Below w3.heap.size w3 W → Bs W A2 n2 c2 Y from fun W h => (hy1.keep hb3).keep h)
          have hxl := hx1.len
          have hyl := hy1.len
          have HL := Lib.hid (And.intro hxl hyl)
          clear hb3 hx1 hy1 hxl hyl
          go_wp2_with fail
          by_cases hle : n1 ≤ n2
          · have HLE := Lib.hid hle
            by_cases heq : X = Y.take n1
            · have HEQ := Lib.hid (show (X = Y.take n1) = True from eq_true heq)
              have hlike : la = lb := HAP.out.1 ⟨by rw [HL.out.1, HL.out.2]; exact hle, by rw [HL.out.1]; exact heq⟩
              rw [decide_eq_true hlike]
              have hle2 : (n1 : Int) ≤ (n2 : Int) := by omega
              clear heq hlike
              refine Free.wp_free_l 16 (fun W => Below w3.heap.size w3 W) [Free.kc (.slice A1 n1 c1), Free.kc (.int .i64 (n1 : Int)), Free.kc (.slice A2 n2 c2), Free.kc (.int .i64 (n2 : Int)), Free.kc (.bool true), Free.kc (.bool true), Free.kc (.slice A1 n1 c1), Free.kc (sv X), Free.kc (.slice A2 n2 c2), Free.kc (.slice A1 n1 c1), Free.kc (.int .i64 (n1 : Int)), Free.kr (n1) ((Y.take n1).map bv), Free.kc (sv (Y.take n1)), Free.kc (.bool true), Free.kc (.bool true), Free.kc (.bool true)] (by kernel_rfl) (by kernel_rfl) (by decide) (Below.refl _ _).drew (fun w w' h g => bt h g) ?_ ?_
              · refine Free.forall_succ (Free.forall_succ (Free.forall_succ (Free.forall_succ (Free.forall_succ (Free.forall_succ (Free.forall_succ (Free.forall_succ (Free.forall_succ (Free.forall_succ (Free.forall_succ (Free.forall_succ (Free.forall_succ (Free.forall_succ (Free.forall_succ (Free.forall_succ (Free.forall_zero) ?_) ?_) ?_) ?_) ?_) ?_) ?_) ?_) ?_) ?_) ?_) ?_) ?_) ?_) ?_) ?_
                · exact Free.ob_plain _ rfl rfl fun vals wq hC hd => (by exact Free.d_move rfl (by kernel_rfl) rfl)
                · exact Free.ob_plain _ rfl rfl fun vals wq hC hd => (by exact Free.d_len rfl Try.underlying23 (Eq.trans (b := vals 0) (by kernel_rfl) (hd 0 (by kernel_rfl))) rfl)
                · exact Free.ob_plain _ rfl rfl fun vals wq hC hd => (by exact Free.d_move rfl (by kernel_rfl) rfl)
                · exact Free.ob_plain _ rfl rfl fun vals wq hC hd => (by exact Free.d_len rfl Try.underlying23 (Eq.trans (b := vals 2) (by kernel_rfl) (hd 2 (by kernel_rfl))) rfl)
                · exact Free.ob_plain _ rfl rfl fun vals wq hC hd => (by exact Free.d_bin rfl (Eq.trans (b := vals 1) (by kernel_rfl) (hd 1 (by kernel_rfl))) (Eq.trans (b := vals 3) (by kernel_rfl) (hd 3 (by kernel_rfl))) (by go_simp) (by first | (go_simp; done) | (go_simp; omega)) rfl)
                · exact Free.ob_plain _ rfl rfl fun vals wq hC hd => (by exact Free.d_move rfl (Eq.trans (b := vals 4) (by kernel_rfl) (hd 4 (by kernel_rfl))) rfl)
                · exact Free.ob_guard _ rfl 5 43 true rfl rfl fun vals wq hC hd => ⟨Eq.trans (b := vals 5) (by kernel_rfl) (hd 5 (by kernel_rfl)), (by exact Free.d_move rfl (by kernel_rfl) rfl)⟩
                · exact Free.ob_guard _ rfl 5 43 true rfl rfl fun vals wq hC hd => ⟨Eq.trans (b := vals 5) (by kernel_rfl) (hd 5 (by kernel_rfl)), (by exact Free.d_conv rfl (Eq.trans (b := vals 6) (by kernel_rfl) (hd 6 (by kernel_rfl))) (run_str (P := Try.prog) 23 9 5 Try.underlying23 Try.underlying5 Try.underlying9 A1 n1 c1 _ X (HX1.out wq hC).rd (HX1.out wq hC).len) (Below.refl _ _) rfl)⟩
                · exact Free.ob_guard _ rfl 5 43 true rfl rfl fun vals wq hC hd => ⟨Eq.trans (b := vals 5) (by kernel_rfl) (hd 5 (by kernel_rfl)), (by exact Free.d_move rfl (by kernel_rfl) rfl)⟩
                · exact Free.ob_guard _ rfl 5 43 true rfl rfl fun vals wq hC hd => ⟨Eq.trans (b := vals 5) (by kernel_rfl) (hd 5 (by kernel_rfl)), (by exact Free.d_move rfl (by kernel_rfl) rfl)⟩
                · exact Free.ob_guard _ rfl 5 43 true rfl rfl fun vals wq hC hd => ⟨Eq.trans (b := vals 5) (by kernel_rfl) (hd 5 (by kernel_rfl)), (by exact Free.d_len rfl Try.underlying23 (Eq.trans (b := vals 9) (by kernel_rfl) (hd 9 (by kernel_rfl))) rfl)⟩
                · exact Free.ob_guard _ rfl 5 43 true rfl rfl fun vals wq hC hd => ⟨Eq.trans (b := vals 5) (by kernel_rfl) (hd 5 (by kernel_rfl)), (by exact (by obtain ⟨A', hrun, hrd⟩ := run_cut_hi' (w := wq) A2 n2 c2 n1 HLE.out (HY1.out wq hC).cap wq.heap.size (Y.map bv) (HY1.out wq hC).rd; rw [← List.map_take] at hrd; exact Free.d_slice rfl (Eq.trans (b := vals 8) (by kernel_rfl) (hd 8 (by kernel_rfl))) rfl (show _ = some (Value.int .i64 (n1 : Int)) from congrArg some (Eq.trans (b := vals 10) (by kernel_rfl) (hd 10 (by kernel_rfl)))) rfl hrun ⟨A', c2, rfl, hrd, Nat.le_trans HLE.out (HY1.out wq hC).cap, (HY1.out wq hC).max⟩))⟩
                · exact Free.ob_guard _ rfl 5 43 true rfl rfl fun vals wq hC hd => ⟨Eq.trans (b := vals 5) (by kernel_rfl) (hd 5 (by kernel_rfl)), (by obtain ⟨A11, k11, e11, rd11, le11, mx11⟩ := hd 11 (by kernel_rfl); exact Free.d_conv rfl (Eq.trans (b := vals 11) (by kernel_rfl) e11) (run_str (P := Try.prog) 23 9 5 Try.underlying23 Try.underlying5 Try.underlying9 A11 n1 k11 _ (Y.take n1) rd11 (by rw [List.length_take, (HY1.out wq hC).len]; have := HLE.out; omega)) (Below.refl _ _) rfl)⟩
                · exact Free.ob_guard _ rfl 5 43 true rfl rfl fun vals wq hC hd => ⟨Eq.trans (b := vals 5) (by kernel_rfl) (hd 5 (by kernel_rfl)), (by exact Free.d_bin rfl (Eq.trans (b := vals 7) (by kernel_rfl) (hd 7 (by kernel_rfl))) (Eq.trans (b := vals 12) (by kernel_rfl) (hd 12 (by kernel_rfl))) (by go_simp) (by rw [run_eql_str]; simp [HEQ.out]) rfl)⟩
                · exact Free.ob_plain _ rfl rfl fun vals wq hC hd => (by exact Free.d_pick rfl (Eq.trans (b := vals 5) (by kernel_rfl) (hd 5 (by kernel_rfl))) (Eq.trans (b := vals 13) (by kernel_rfl) (hd 13 (by kernel_rfl))) rfl)
                · exact Free.ob_plain _ rfl rfl fun vals wq hC hd => (by exact Free.d_assign rfl (Eq.trans (b := vals 14) (by kernel_rfl) (hd 14 (by kernel_rfl))) rfl)
              · intro vals wq hC hd
                have e0 : vals 0 = (.slice A1 n1 c1) := hd 0 (by decide)
                have e1 : vals 1 = (.int .i64 (n1 : Int)) := hd 1 (by decide)
                have e2 : vals 2 = (.slice A2 n2 c2) := hd 2 (by decide)
                have e3 : vals 3 = (.int .i64 (n2 : Int)) := hd 3 (by decide)
                have e4 : vals 4 = (.bool true) := hd 4 (by decide)
                have e5 : vals 5 = (.bool true) := hd 5 (by decide)
                have e6 : vals 6 = (.slice A1 n1 c1) := hd 6 (by decide)
                have e7 : vals 7 = (sv X) := hd 7 (by decide)
                have e8 : vals 8 = (.slice A2 n2 c2) := hd 8 (by decide)
                have e9 : vals 9 = (.slice A1 n1 c1) := hd 9 (by decide)
                have e10 : vals 10 = (.int .i64 (n1 : Int)) := hd 10 (by decide)
                obtain ⟨A11, k11, e11, rd11, le11, mx11⟩ := hd 11 (by decide)
                have e12 : vals 12 = (sv (Y.take n1)) := hd 12 (by decide)
                have e13 : vals 13 = (.bool true) := hd 13 (by decide)
                have e14 : vals 14 = (.bool true) := hd 14 (by decide)
                have e15 : vals 15 = (.bool true) := hd 15 (by decide)
                simp only [Free.frameOf, List.range, List.range.loop, List.foldl, Free.dstOf, List.getElem?_toArray, List.getElem?_cons_zero, List.getElem?_cons_succ, Option.bind_some, Act.put, List.setIfInBounds_toArray, List.set_cons_zero, List.set_cons_succ, e0, e1, e2, e3, e4, e5, e6, e7, e8, e9, e10, e11, e12, e13, e14, e15]
                refine wpList_nil ?_
                clear hd e0 e1 e2 e3 e4 e5 e6 e7 e8 e9 e10 e11 e12 e13 e14 e15
                have HBQ := Lib.hid (bt HB3.out hC)
                clear hC
                go_wp2_with fail
                refine (knows9_any _).mono ?_
                rintro e w5 ⟨rfl, hb5⟩
                have HB5 := Lib.hid (bt HBQ.out hb5)
                clear hb5
                go_wp2
                go_ret
                exact ⟨rfl, HB5.out⟩
            · have HEQ := Lib.hid (show (X = Y.take n1) = False from eq_false heq)
              have hlike : ¬ la = lb := fun e => heq (by have h := (HAP.out.2 e).2; rw [HL.out.1] at h; exact h)
              rw [decide_eq_false hlike]
              have hle2 : (n1 : Int) ≤ (n2 : Int) := by omega
              clear heq hlike
              refine Free.wp_free_l 16 (fun W => Below w3.heap.size w3 W) [Free.kc (.slice A1 n1 c1), Free.kc (.int .i64 (n1 : Int)), Free.kc (.slice A2 n2 c2), Free.kc (.int .i64 (n2 : Int)), Free.kc (.bool true), Free.kc (.bool true), Free.kc (.slice A1 n1 c1), Free.kc (sv X), Free.kc (.slice A2 n2 c2), Free.kc (.slice A1 n1 c1), Free.kc (.int .i64 (n1 : Int)), Free.kr (n1) ((Y.take n1).map bv), Free.kc (sv (Y.take n1)), Free.kc (.bool false), Free.kc (.bool false), Free.kc (.bool false)] (by kernel_rfl) (by kernel_rfl) (by decide) (Below.refl _ _).drew (fun w w' h g => bt h g) ?_ ?_
              · refine Free.forall_succ (Free.forall_succ (Free.forall_succ (Free.forall_succ (Free.forall_succ (Free.forall_succ (Free.forall_succ (Free.forall_succ (Free.forall_succ (Free.forall_succ (Free.forall_succ (Free.forall_succ (Free.forall_succ (Free.forall_succ (Free.forall_succ (Free.forall_succ (Free.forall_zero) ?_) ?_) ?_) ?_) ?_) ?_) ?_) ?_) ?_) ?_) ?_) ?_) ?_) ?_) ?_) ?_
                · exact Free.ob_plain _ rfl rfl fun vals wq hC hd => (by exact Free.d_move rfl (by kernel_rfl) rfl)
                · exact Free.ob_plain _ rfl rfl fun vals wq hC hd => (by exact Free.d_len rfl Try.underlying23 (Eq.trans (b := vals 0) (by kernel_rfl) (hd 0 (by kernel_rfl))) rfl)
                · exact Free.ob_plain _ rfl rfl fun vals wq hC hd => (by exact Free.d_move rfl (by kernel_rfl) rfl)
                · exact Free.ob_plain _ rfl rfl fun vals wq hC hd => (by exact Free.d_len rfl Try.underlying23 (Eq.trans (b := vals 2) (by kernel_rfl) (hd 2 (by kernel_rfl))) rfl)
                · exact Free.ob_plain _ rfl rfl fun vals wq hC hd => (by exact Free.d_bin rfl (Eq.trans (b := vals 1) (by kernel_rfl) (hd 1 (by kernel_rfl))) (Eq.trans (b := vals 3) (by kernel_rfl) (hd 3 (by kernel_rfl))) (by go_simp) (by first | (go_simp; done) | (go_simp; omega)) rfl)
                · exact Free.ob_plain _ rfl rfl fun vals wq hC hd => (by exact Free.d_move rfl (Eq.trans (b := vals 4) (by kernel_rfl) (hd 4 (by kernel_rfl))) rfl)
                · exact Free.ob_guard _ rfl 5 43 true rfl rfl fun vals wq hC hd => ⟨Eq.trans (b := vals 5) (by kernel_rfl) (hd 5 (by kernel_rfl)), (by exact Free.d_move rfl (by kernel_rfl) rfl)⟩
                · exact Free.ob_guard _ rfl 5 43 true rfl rfl fun vals wq hC hd => ⟨Eq.trans (b := vals 5) (by kernel_rfl) (hd 5 (by kernel_rfl)), (by exact Free.d_conv rfl (Eq.trans (b := vals 6) (by kernel_rfl) (hd 6 (by kernel_rfl))) (run_str (P := Try.prog) 23 9 5 Try.underlying23 Try.underlying5 Try.underlying9 A1 n1 c1 _ X (HX1.out wq hC).rd (HX1.out wq hC).len) (Below.refl _ _) rfl)⟩
                · exact Free.ob_guard _ rfl 5 43 true rfl rfl fun vals wq hC hd => ⟨Eq.trans (b := vals 5) (by kernel_rfl) (hd 5 (by kernel_rfl)), (by exact Free.d_move rfl (by kernel_rfl) rfl)⟩
                · exact Free.ob_guard _ rfl 5 43 true rfl rfl fun vals wq hC hd => ⟨Eq.trans (b := vals 5) (by kernel_rfl) (hd 5 (by kernel_rfl)), (by exact Free.d_move rfl (by kernel_rfl) rfl)⟩
                · exact Free.ob_guard _ rfl 5 43 true rfl rfl fun vals wq hC hd => ⟨Eq.trans (b := vals 5) (by kernel_rfl) (hd 5 (by kernel_rfl)), (by exact Free.d_len rfl Try.underlying23 (Eq.trans (b := vals 9) (by kernel_rfl) (hd 9 (by kernel_rfl))) rfl)⟩
                · exact Free.ob_guard _ rfl 5 43 true rfl rfl fun vals wq hC hd => ⟨Eq.trans (b := vals 5) (by kernel_rfl) (hd 5 (by kernel_rfl)), (by exact (by obtain ⟨A', hrun, hrd⟩ := run_cut_hi' (w := wq) A2 n2 c2 n1 HLE.out (HY1.out wq hC).cap wq.heap.size (Y.map bv) (HY1.out wq hC).rd; rw [← List.map_take] at hrd; exact Free.d_slice rfl (Eq.trans (b := vals 8) (by kernel_rfl) (hd 8 (by kernel_rfl))) rfl (show _ = some (Value.int .i64 (n1 : Int)) from congrArg some (Eq.trans (b := vals 10) (by kernel_rfl) (hd 10 (by kernel_rfl)))) rfl hrun ⟨A', c2, rfl, hrd, Nat.le_trans HLE.out (HY1.out wq hC).cap, (HY1.out wq hC).max⟩))⟩
                · exact Free.ob_guard _ rfl 5 43 true rfl rfl fun vals wq hC hd => ⟨Eq.trans (b := vals 5) (by kernel_rfl) (hd 5 (by kernel_rfl)), (by obtain ⟨A11, k11, e11, rd11, le11, mx11⟩ := hd 11 (by kernel_rfl); exact Free.d_conv rfl (Eq.trans (b := vals 11) (by kernel_rfl) e11) (run_str (P := Try.prog) 23 9 5 Try.underlying23 Try.underlying5 Try.underlying9 A11 n1 k11 _ (Y.take n1) rd11 (by rw [List.length_take, (HY1.out wq hC).len]; have := HLE.out; omega)) (Below.refl _ _) rfl)⟩
                · exact Free.ob_guard _ rfl 5 43 true rfl rfl fun vals wq hC hd => ⟨Eq.trans (b := vals 5) (by kernel_rfl) (hd 5 (by kernel_rfl)), (by exact Free.d_bin rfl (Eq.trans (b := vals 7) (by kernel_rfl) (hd 7 (by kernel_rfl))) (Eq.trans (b := vals 12) (by kernel_rfl) (hd 12 (by kernel_rfl))) (by go_simp) (by rw [run_eql_str]; simp [HEQ.out]) rfl)⟩
                · exact Free.ob_plain _ rfl rfl fun vals wq hC hd => (by exact Free.d_pick rfl (Eq.trans (b := vals 5) (by kernel_rfl) (hd 5 (by kernel_rfl))) (Eq.trans (b := vals 13) (by kernel_rfl) (hd 13 (by kernel_rfl))) rfl)
                · exact Free.ob_plain _ rfl rfl fun vals wq hC hd => (by exact Free.d_assign rfl (Eq.trans (b := vals 14) (by kernel_rfl) (hd 14 (by kernel_rfl))) rfl)
              · intro vals wq hC hd
                have e0 : vals 0 = (.slice A1 n1 c1) := hd 0 (by decide)
                have e1 : vals 1 = (.int .i64 (n1 : Int)) := hd 1 (by decide)
                have e2 : vals 2 = (.slice A2 n2 c2) := hd 2 (by decide)
                have e3 : vals 3 = (.int .i64 (n2 : Int)) := hd 3 (by decide)
                have e4 : vals 4 = (.bool true) := hd 4 (by decide)
                have e5 : vals 5 = (.bool true) := hd 5 (by decide)
                have e6 : vals 6 = (.slice A1 n1 c1) := hd 6 (by decide)
                have e7 : vals 7 = (sv X) := hd 7 (by decide)
                have e8 : vals 8 = (.slice A2 n2 c2) := hd 8 (by decide)
                have e9 : vals 9 = (.slice A1 n1 c1) := hd 9 (by decide)
                have e10 : vals 10 = (.int .i64 (n1 : Int)) := hd 10 (by decide)
                obtain ⟨A11, k11, e11, rd11, le11, mx11⟩ := hd 11 (by decide)
                have e12 : vals 12 = (sv (Y.take n1)) := hd 12 (by decide)
                have e13 : vals 13 = (.bool false) := hd 13 (by decide)
                have e14 : vals 14 = (.bool false) := hd 14 (by decide)
                have e15 : vals 15 = (.bool false) := hd 15 (by decide)
                simp only [Free.frameOf, List.range, List.range.loop, List.foldl, Free.dstOf, List.getElem?_toArray, List.getElem?_cons_zero, List.getElem?_cons_succ, Option.bind_some, Act.put, List.setIfInBounds_toArray, List.set_cons_zero, List.set_cons_succ, e0, e1, e2, e3, e4, e5, e6, e7, e8, e9, e10, e11, e12, e13, e14, e15]
                refine wpList_nil ?_
                clear hd e0 e1 e2 e3 e4 e5 e6 e7 e8 e9 e10 e11 e12 e13 e14 e15
                have HBQ := Lib.hid (bt HB3.out hC)
                clear hC
                go_wp2_with fail
                refine (knows9_any _).mono ?_
                rintro e w5 ⟨rfl, hb5⟩
                have HB5 := Lib.hid (bt HBQ.out hb5)
                clear hb5
                go_wp2
                go_ret
                exact ⟨rfl, HB5.out⟩
          · have hlike : ¬ la = lb := fun e => hle (by have h := (HAP.out.2 e).1; rw [HL.out.1, HL.out.2] at h; exact h)
            rw [decide_eq_false hlike]
            have hle2 : ¬ (n1 : Int) ≤ (n2 : Int) := by omega
            have hle3 : (n2 : Int) < (n1 : Int) := by omega
            clear hlike
            refine Free.wp_free_l 16 (fun W => Below w3.heap.size w3 W) [Free.kc (.slice A1 n1 c1), Free.kc (.int .i64 (n1 : Int)), Free.kc (.slice A2 n2 c2), Free.kc (.int .i64 (n2 : Int)), Free.kc (.bool false), Free.kc (.bool false), Free.kc (undef), Free.kc (undef), Free.kc (undef), Free.kc (undef), Free.kc (undef), Free.kc (undef), Free.kc (undef), Free.kc (undef), Free.kc (.bool false), Free.kc (.bool false)] (by kernel_rfl) (by kernel_rfl) (by decide) (Below.refl _ _).drew (fun w w' h g => bt h g) ?_ ?_
            · refine Free.forall_succ (Free.forall_succ (Free.forall_succ (Free.forall_succ (Free.forall_succ (Free.forall_succ (Free.forall_succ (Free.forall_succ (Free.forall_succ (Free.forall_succ (Free.forall_succ (Free.forall_succ (Free.forall_succ (Free.forall_succ (Free.forall_succ (Free.forall_succ (Free.forall_zero) ?_) ?_) ?_) ?_) ?_) ?_) ?_) ?_) ?_) ?_) ?_) ?_) ?_) ?_) ?_) ?_
              · exact Free.ob_plain _ rfl rfl fun vals wq hC hd => (by exact Free.d_move rfl (by kernel_rfl) rfl)
              · exact Free.ob_plain _ rfl rfl fun vals wq hC hd => (by exact Free.d_len rfl Try.underlying23 (Eq.trans (b := vals 0) (by kernel_rfl) (hd 0 (by kernel_rfl))) rfl)
              · exact Free.ob_plain _ rfl rfl fun vals wq hC hd => (by exact Free.d_move rfl (by kernel_rfl) rfl)
              · exact Free.ob_plain _ rfl rfl fun vals wq hC hd => (by exact Free.d_len rfl Try.underlying23 (Eq.trans (b := vals 2) (by kernel_rfl) (hd 2 (by kernel_rfl))) rfl)
              · exact Free.ob_plain _ rfl rfl fun vals wq hC hd => (by exact Free.d_bin rfl (Eq.trans (b := vals 1) (by kernel_rfl) (hd 1 (by kernel_rfl))) (Eq.trans (b := vals 3) (by kernel_rfl) (hd 3 (by kernel_rfl))) (by go_simp) (by first | (go_simp; done) | (go_simp; omega)) rfl)
              · exact Free.ob_plain _ rfl rfl fun vals wq hC hd => (by exact Free.d_move rfl (Eq.trans (b := vals 4) (by kernel_rfl) (hd 4 (by kernel_rfl))) rfl)
              · exact Free.ob_skip _ rfl 5 43 true rfl rfl fun vals wq hC hd => ⟨.inl (Eq.trans (b := vals 5) (by kernel_rfl) (hd 5 (by kernel_rfl))), rfl⟩
              · exact Free.ob_skip _ rfl 5 43 true rfl rfl fun vals wq hC hd => ⟨.inl (Eq.trans (b := vals 5) (by kernel_rfl) (hd 5 (by kernel_rfl))), rfl⟩
              · exact Free.ob_skip _ rfl 5 43 true rfl rfl fun vals wq hC hd => ⟨.inl (Eq.trans (b := vals 5) (by kernel_rfl) (hd 5 (by kernel_rfl))), rfl⟩
              · exact Free.ob_skip _ rfl 5 43 true rfl rfl fun vals wq hC hd => ⟨.inl (Eq.trans (b := vals 5) (by kernel_rfl) (hd 5 (by kernel_rfl))), rfl⟩
              · exact Free.ob_skip _ rfl 5 43 true rfl rfl fun vals wq hC hd => ⟨.inl (Eq.trans (b := vals 5) (by kernel_rfl) (hd 5 (by kernel_rfl))), rfl⟩
              · exact Free.ob_skip _ rfl 5 43 true rfl rfl fun vals wq hC hd => ⟨.inl (Eq.trans (b := vals 5) (by kernel_rfl) (hd 5 (by kernel_rfl))), rfl⟩
              · exact Free.ob_skip _ rfl 5 43 true rfl rfl fun vals wq hC hd => ⟨.inl (Eq.trans (b := vals 5) (by kernel_rfl) (hd 5 (by kernel_rfl))), rfl⟩
              · exact Free.ob_skip _ rfl 5 43 true rfl rfl fun vals wq hC hd => ⟨.inl (Eq.trans (b := vals 5) (by kernel_rfl) (hd 5 (by kernel_rfl))), rfl⟩
              · exact Free.ob_plain _ rfl rfl fun vals wq hC hd => (by exact Free.d_pick rfl (Eq.trans (b := vals 5) (by kernel_rfl) (hd 5 (by kernel_rfl))) rfl rfl)
              · exact Free.ob_plain _ rfl rfl fun vals wq hC hd => (by exact Free.d_assign rfl (Eq.trans (b := vals 14) (by kernel_rfl) (hd 14 (by kernel_rfl))) rfl)
            · intro vals wq hC hd
              have e0 : vals 0 = (.slice A1 n1 c1) := hd 0 (by decide)
              have e1 : vals 1 = (.int .i64 (n1 : Int)) := hd 1 (by decide)
              have e2 : vals 2 = (.slice A2 n2 c2) := hd 2 (by decide)
              have e3 : vals 3 = (.int .i64 (n2 : Int)) := hd 3 (by decide)
              have e4 : vals 4 = (.bool false) := hd 4 (by decide)
              have e5 : vals 5 = (.bool false) := hd 5 (by decide)
              have e6 : vals 6 = (undef) := hd 6 (by decide)
              have e7 : vals 7 = (undef) := hd 7 (by decide)
              have e8 : vals 8 = (undef) := hd 8 (by decide)
              have e9 : vals 9 = (undef) := hd 9 (by decide)
              have e10 : vals 10 = (undef) := hd 10 (by decide)
              have e11 : vals 11 = (undef) := hd 11 (by decide)
              have e12 : vals 12 = (undef) := hd 12 (by decide)
              have e13 : vals 13 = (undef) := hd 13 (by decide)
              have e14 : vals 14 = (.bool false) := hd 14 (by decide)
              have e15 : vals 15 = (.bool false) := hd 15 (by decide)
              simp only [Free.frameOf, List.range, List.range.loop, List.foldl, Free.dstOf, List.getElem?_toArray, List.getElem?_cons_zero, List.getElem?_cons_succ, Option.bind_some, Act.put, List.setIfInBounds_toArray, List.set_cons_zero, List.set_cons_succ, e0, e1, e2, e3, e4, e5, e6, e7, e8, e9, e10, e11, e12, e13, e14, e15]
              refine wpList_nil ?_
              clear hd e0 e1 e2 e3 e4 e5 e6 e7 e8 e9 e10 e11 e12 e13 e14 e15
              have HBQ := Lib.hid (bt HB3.out hC)
              clear hC
              go_wp2_with fail
              refine (knows9_any _).mono ?_
              rintro e w5 ⟨rfl, hb5⟩
              have HB5 := Lib.hid (bt HBQ.out hb5)
              clear hb5
              go_wp2
              go_ret
              exact ⟨rfl, HB5.out⟩
        | false =>
          have HRlb := Lib.hid hrb
          clear hrb
          go_enter Try.func9, Try.ntmps9
          go_wp2_with fail
          refine (great9_any A n c w hc hm).mono ?_
          rintro e w0 ⟨rfl, rfl⟩
          rw [G.out]
          go_wp2_with fail
          refine (great9_any B m k w hk hk2).mono ?_
          rintro e w0 ⟨rfl, rfl⟩
          rw [G2.out]
          go_wp2_with fail
          refine (write_yes A n c la _ hA HRla.out).mono ?_
          rintro e w1 ⟨A1, n1, c1, rfl, ho1, hb1⟩
          have HB1 := Lib.hid hb1
          go_wp2_with fail
          refine (write_no B m k lb _ (hB.keep HB1.out) HRlb.out).mono ?_
          rintro e w2 ⟨rfl, rfl⟩
          clear hb1
          go_wp2_with fail
          refine (knows9_any _).mono ?_
          rintro e w5 ⟨rfl, hb5⟩
          have HB5 := Lib.hid (bt HB1.out hb5)
          clear hb5
          go_wp2
          go_ret
          exact ⟨rfl, HB5.out⟩
      | false =>
        have HRla := Lib.hid hra
        clear hra
        cases hrb : Post.right lb with
        | true =>
          have HRlb := Lib.hid hrb
          clear hrb
          go_enter Try.func9, Try.ntmps9
          go_wp2_with fail
          refine (great9_any A n c w hc hm).mono ?_
          rintro e w0 ⟨rfl, rfl⟩
          rw [G.out]
          go_wp2_with fail
          refine (great9_any B m k w hk hk2).mono ?_
          rintro e w0 ⟨rfl, rfl⟩
          rw [G2.out]
          go_wp2_with fail
          refine (write_no A n c la _ hA HRla.out).mono ?_
          rintro e w1 ⟨rfl, rfl⟩
          go_wp2_with fail
          refine (write_yes B m k lb _ hB HRlb.out).mono ?_
          rintro e w2 ⟨A2, n2, c2, rfl, ho2, hb2⟩
          have HB2 := Lib.hid hb2
          clear hb2
          go_wp2_with fail
          refine (knows9_any _).mono ?_
          rintro e w5 ⟨rfl, hb5⟩
          have HB5 := Lib.hid (bt HB2.out hb5)
          clear hb5
          go_wp2
          go_ret
          exact ⟨rfl, HB5.out⟩
        | false =>
          have HRlb := Lib.hid hrb
          clear hrb
          go_enter Try.func9, Try.ntmps9
          go_wp2_with fail
          refine (great9_any A n c w hc hm).mono ?_
          rintro e w0 ⟨rfl, rfl⟩
          rw [G.out]
          go_wp2_with fail
          refine (great9_any B m k w hk hk2).mono ?_
          rintro e w0 ⟨rfl, rfl⟩
          rw [G2.out]
          go_wp2_with fail
          refine (write_no A n c la _ hA HRla.out).mono ?_
          rintro e w1 ⟨rfl, rfl⟩
          go_wp2_with fail
          refine (write_no B m k lb _ hB HRlb.out).mono ?_
          rintro e w2 ⟨rfl, rfl⟩
          go_wp2_with fail
          refine (knows9_any _).mono ?_
          rintro e w5 ⟨rfl, hb5⟩
          have HB5 := Lib.hid hb5
          clear hb5
          go_wp2
          go_ret
          exact ⟨rfl, HB5.out⟩
end Go.Proofs.Ytkkliblndglniaa
