/- CodeOnly: the walk of the law. -/
import Derived.Test.YtkkliblndglniaaCodeK
namespace Go.Proofs.Ytkkliblndglniaa
set_option linter.unusedVariables false
open Go.RowKit

theorem d_field' {P : Program} {V : Value → World → Prop} {w : World} {ρ : Operand → Value} {o : Oper} {c : Value} {T : TypeId} {x : Operand} {k : Nat} {cx : Value} (ho : o.op = .fieldAddr T x k) (hx : ρ x = cx) (hr : (Instr.fieldAt T cx k).run P w = .ok c w) (hV : V c w) : Free.Does P V w ρ o := by
  unfold Free.Does; simp only [execOp, ho, hx, Sem.run_bind, hr, Sem.run_pure, Result.andThen_ok]; exact ⟨hV, Below.refl _ _⟩
/-- x[:j], as a run. -/
theorem run_cut_hi {w : World} (A : Option Addr) (n c j : Nat) (hj : j ≤ n) (hnc : n ≤ c) (B : Nat) (xs : List Value) (hr : Rd w B A xs) :
    ∃ A', (Instr.sliceAt 23 (.slice A n c) none (some (.int .i64 (j : Int))) none).run Try.prog w = .ok (.slice A' j c) w ∧ Rd w B A' (xs.take j) := by
  have hu' : Try.prog.underlying 23 = some (.slice (Try.prog.elem 23)) := by kernel_rfl
  have hr1 := run_slice_h (P := Try.prog) w 23 A n c hu' .i64 (j : Int) (by omega) (by omega)
  rw [show Try.prog.elem 23 = 5 by kernel_rfl, run_sizeOf_of 5 1 size_u8, Result.andThen_ok] at hr1
  refine ⟨_, by rw [run_sliceAt_slice w 23 _ _ _ _ hu', hr1]; simp only [Int.toNat_natCast]; rfl, ?_⟩
  split
  · exact hr.take _
  · have := (hr.take j).drop 0
    simpa using this
theorem rem_u64 (a : Int) (k : Nat) (hk : 0 < k) : ∃ j : Nat, (IntKind.u64.wrap a).tmod (k : Int) = (j : Int) ∧ j < k := by
  have h0 : 0 ≤ IntKind.u64.wrap a := by rw [IntKind.wrap_u64]; omega
  rw [Int.tmod_eq_emod_of_nonneg h0]
  have h1 := Int.emod_nonneg (IntKind.u64.wrap a) (show (k : Int) ≠ 0 by omega)
  have h2 := Int.emod_lt_of_pos (IntKind.u64.wrap a) (show (0 : Int) < (k : Int) by omega)
  exact ⟨((IntKind.u64.wrap a) % (k : Int)).toNat, by omega, by omega⟩
set_option maxRecDepth 100000 in
set_option maxHeartbeats 16000000 in
theorem only_any (A : Option Addr) (n c : Nat) (l : List UInt8) (cut : Int) (w : World) (hr : Rd w w.heap.size A (l.map bv)) (hn : l.length = n) (hc : n ≤ c) (hm : c ≤ maxLen) (hv : -9223372036854775808 ≤ cut ∧ cut ≤ 9223372036854775807) :
    Calls Try.prog 6 #[.slice A n c, .int .i64 cut] w (RetB true w) := by
  have hB : Bs w A n c l := ⟨hr, hn, hc, hm⟩
  rw [maxLen_eq] at hm
  obtain ⟨v1, v2⟩ := hv
  clear hr hn
  by_cases hbig : 3000 < n
  · go_enter Try.func6, Try.ntmps6
    go_wp2_with fail
    refine (knows2_any _).mono ?_
    rintro e w1 ⟨rfl, hb1⟩
    go_wp2
    go_ret
    exact ⟨rfl, hb1⟩
  · have hcall := (show Calls Try.prog 21 #[rv A n c 0 0, .int .i64 50, .int .i64 1000] w (ReadListPost l n 0 50 1000 w) from readList_any A n c 0 50 1000 l w hB (by omega) (by omega) (by omega) (by omega) (by omega) (by omega))
    unfold ReadListPost at hcall
    rw [List.drop_zero] at hcall
    cases hg : Code.getList 50 1000 l with
    | error x =>
      rw [hg] at hcall
      have hx := getList_err hg
      have b1 : ((x : Int) == 0) = false := beq_eq_false_iff_ne.2 (by omega)
      have HC := Lib.hid hcall
      clear hcall hg hx
      go_enter Try.func6, Try.ntmps6
      go_wp2_with fail
      refine HC.out.mono ?_
      rintro e w1 ⟨A1, c1, ho1, hb1, he, _⟩
      subst he
      have HB1 := Lib.hid (hb1.alloc hb1.size (.cells #[.slice A1 n c1, .int .i64 ((0 : Nat) : Int), .int .i64 (x : Int)] 37))
      clear hb1
      go_wp2_with fail
      refine (knows2_any _).mono ?_
      rintro e w2 ⟨rfl, hb2⟩
      have HB2 := Lib.hid (bt HB1.out hb2)
      clear hb2
      go_wp2
      go_ret
      exact ⟨rfl, HB2.out⟩
    | ok r =>
      obtain ⟨ls, k⟩ := r
      rw [hg] at hcall
      obtain ⟨ht, hk1, hk, hln, _, hls, hcutp⟩ := Code.getList_ok hg
      rw [hB.len] at hk
      obtain ⟨L, hL⟩ : ∃ L, Code.list ls = L := ⟨_, rfl⟩
      have hLl : L.length = k := by rw [← hL, ← ht, List.length_take, hB.len]; omega
      have HC := Lib.hid hcall
      have HP := Lib.hid hcutp
      have HT := Lib.hid (show l.take k = L by rw [ht]; exact hL)
      have HLL := Lib.hid hLl
      have HL := Lib.hid hL
      have hs50 : ls.length ≤ 50 := by omega
      have HLS := Lib.hid (And.intro hs50 (show ∀ s ∈ ls, s.length ≤ 10000 from fun s hs => by have := hls s hs; omega))
      clear hcall hg hcutp ht hL hLl hls hln hs50
      go_enter Try.func6, Try.ntmps6
      go_wp2_with fail
      refine HC.out.mono ?_
      rintro e w1 ⟨A1, c1, ho1, hb1, A2, n2, c2, he, hos⟩
      subst he
      have hkk : (((0 + k : Nat)) : Int) = (k : Int) := by simp
      rw [hkk]
      clear hkk
      go_wp2_with fail
      obtain ⟨h0, hh0⟩ : ∃ h0, w1.heap.size = h0 := ⟨_, rfl⟩
      obtain ⟨W0, hW0⟩ : ∃ W, w1.alloc (.cells #[.slice A1 n c1, .int .i64 (k : Int), .int .i64 0] 37) = W := ⟨_, rfl⟩
      have hrow : Row W0 h0 #[.slice A1 n c1, .int .i64 (k : Int), .int .i64 0] 37 := by rw [← hW0, ← hh0]; exact row_new w1 _ _
      have hb10 : Below w1.heap.size w1 W0 := by rw [← hW0]; exact (Below.refl _ w1).alloc (Nat.le_refl _) _
      have hB0 := hB.keep (bt hb1 hb10)
      have hos0 := hos.ss.keep hb10
      have HB0 := Lib.hid (bt hb1 hb10)
      have HROW := Lib.hid hrow
      have hn2 : n2 = ls.length := hos.len.symm
      have HCELL := Lib.hid (show ∀ W, Below W0.heap.size W0 W → W.cell? ⟨h0, 1, none⟩ = some (.int .i64 (k : Int)) from fun W hW => (Row.belowS hrow hW (Nat.le_refl _)).cellQ 1 _ rfl)
      have HLIST := Lib.hid (show ∀ W, Below W0.heap.size W0 W → Calls Try.prog 17 #[.slice none 0 0, .slice A2 n2 c2] W (fun e w2 => ∃ v, e = .returned v ∧ (Free.kr k (L.map bv)).p v w2 ∧ Below W.heap.size W w2) from fun W hW => by
        refine (list_any none 0 0 [] A2 n2 c2 ls W (Bs.nil W) (by omega) (hos0.keep hW) (by rw [hn2]; have := HLS.out.1; omega) HLS.out.2).mono ?_
        rintro e w2 ⟨A3, n3, c3, rfl, ho3, hb3⟩
        rw [List.nil_append, HL.out] at ho3
        have hn3 : n3 = k := by rw [← ho3.len]; exact HLL.out
        subst hn3
        exact ⟨_, rfl, ⟨A3, c3, rfl, ho3.bs.rd, ho3.cap, ho3.max⟩, hb3⟩)
      have HCUT := Lib.hid (show ∀ W, Below W0.heap.size W0 W → ∃ A', (Instr.sliceAt 23 (.slice A n c) none (some (.int .i64 (k : Int))) none).run Try.prog W = .ok (.slice A' k c) W ∧ Rd W W.heap.size A' (L.map bv) from fun W hW => by
        obtain ⟨A', h1, h2⟩ := run_cut_hi (w := W) A n c k hk hc W.heap.size (l.map bv) (hB0.keep hW).rd
        rw [← List.map_take, HT.out] at h2
        exact ⟨A', h1, h2⟩)
      have HKC := Lib.hid (And.intro (show k ≤ c by omega) (show c ≤ maxLen by rw [maxLen_eq]; exact hm))
      have kz : (0 : Int) ≤ (k : Int) := by omega
      have k1' : (1 : Int) ≤ (k : Int) := by omega
      have kn : (k : Int) ≤ (n : Int) := by omega
      have kb : ¬ ((k : Int) < 1) := by omega
      have kb2 : ¬ ((n : Int) < (k : Int)) := by omega
      rw [hW0]; (try rw [hh0])
      clear hrow hb10 hb1 hos hos0 hn2 hW0
      refine Free.wp_free_l 21 (fun W => Below W0.heap.size W0 W) [Free.kc (.pointer (some ⟨h0, 1, none⟩)), Free.kc (.int .i64 (k : Int)), Free.kc (.bool false), Free.kc (.bool false), Free.kc (.pointer (some ⟨h0, 1, none⟩)), Free.kc (.int .i64 (k : Int)), Free.kc (.slice A n c), Free.kc (.int .i64 (n : Int)), Free.kc (.bool false), Free.kc (.bool false), Free.kc (.bool false), Free.kc (.slice A2 n2 c2), Free.kr (k) (L.map bv), Free.kc (sv L), Free.kc (.slice A n c), Free.kc (.pointer (some ⟨h0, 1, none⟩)), Free.kc (.int .i64 (k : Int)), Free.kr (k) (L.map bv), Free.kc (sv L), Free.kc (.bool false), Free.kc (.bool false)] (by kernel_rfl) (by kernel_rfl) (by decide) (Below.refl _ _).drew (fun w w' h g => bt h g) ?_ ?_
      · refine Free.forall_succ (Free.forall_succ (Free.forall_succ (Free.forall_succ (Free.forall_succ (Free.forall_succ (Free.forall_succ (Free.forall_succ (Free.forall_succ (Free.forall_succ (Free.forall_succ (Free.forall_succ (Free.forall_succ (Free.forall_succ (Free.forall_succ (Free.forall_succ (Free.forall_succ (Free.forall_succ (Free.forall_succ (Free.forall_succ (Free.forall_succ (Free.forall_zero) ?_) ?_) ?_) ?_) ?_) ?_) ?_) ?_) ?_) ?_) ?_) ?_) ?_) ?_) ?_) ?_) ?_) ?_) ?_) ?_) ?_
        · exact Free.ob_plain _ rfl rfl fun vals wq hC hd => (by exact d_field' (cx := .pointer (some ⟨h0, 0, none⟩)) rfl (by kernel_rfl) (by go_simp) rfl)
        · exact Free.ob_plain _ rfl rfl fun vals wq hC hd => (by exact Free.d_load rfl (Eq.trans (b := vals 0) (by kernel_rfl) (hd 0 (by kernel_rfl))) (by have hcc := HCELL.out wq hC; go_simp) rfl)
        · exact Free.ob_plain _ rfl rfl fun vals wq hC hd => (by exact Free.d_bin rfl (Eq.trans (b := vals 1) (by kernel_rfl) (hd 1 (by kernel_rfl))) (show _ = (.int .i64 1 : Value) from rfl) (by go_simp) (by go_simp) rfl)
        · exact Free.ob_plain _ rfl rfl fun vals wq hC hd => (by exact Free.d_move rfl (Eq.trans (b := vals 2) (by kernel_rfl) (hd 2 (by kernel_rfl))) rfl)
        · exact Free.ob_guard _ rfl 3 37 false rfl rfl fun vals wq hC hd => ⟨Eq.trans (b := vals 3) (by kernel_rfl) (hd 3 (by kernel_rfl)), (by exact d_field' (cx := .pointer (some ⟨h0, 0, none⟩)) rfl (by kernel_rfl) (by go_simp) rfl)⟩
        · exact Free.ob_guard _ rfl 3 37 false rfl rfl fun vals wq hC hd => ⟨Eq.trans (b := vals 3) (by kernel_rfl) (hd 3 (by kernel_rfl)), (by exact Free.d_load rfl (Eq.trans (b := vals 4) (by kernel_rfl) (hd 4 (by kernel_rfl))) (by have hcc := HCELL.out wq hC; go_simp) rfl)⟩
        · exact Free.ob_guard _ rfl 3 37 false rfl rfl fun vals wq hC hd => ⟨Eq.trans (b := vals 3) (by kernel_rfl) (hd 3 (by kernel_rfl)), (by exact Free.d_move rfl (by kernel_rfl) rfl)⟩
        · exact Free.ob_guard _ rfl 3 37 false rfl rfl fun vals wq hC hd => ⟨Eq.trans (b := vals 3) (by kernel_rfl) (hd 3 (by kernel_rfl)), (by exact Free.d_len rfl Try.underlying23 (Eq.trans (b := vals 6) (by kernel_rfl) (hd 6 (by kernel_rfl))) rfl)⟩
        · exact Free.ob_guard _ rfl 3 37 false rfl rfl fun vals wq hC hd => ⟨Eq.trans (b := vals 3) (by kernel_rfl) (hd 3 (by kernel_rfl)), (by exact Free.d_bin rfl (Eq.trans (b := vals 5) (by kernel_rfl) (hd 5 (by kernel_rfl))) (Eq.trans (b := vals 7) (by kernel_rfl) (hd 7 (by kernel_rfl))) (by go_simp) (by go_simp) rfl)⟩
        · exact Free.ob_plain _ rfl rfl fun vals wq hC hd => (by exact Free.d_pick rfl (Eq.trans (b := vals 3) (by kernel_rfl) (hd 3 (by kernel_rfl))) (Eq.trans (b := vals 8) (by kernel_rfl) (hd 8 (by kernel_rfl))) rfl)
        · exact Free.ob_plain _ rfl rfl fun vals wq hC hd => (by exact Free.d_move rfl (Eq.trans (b := vals 9) (by kernel_rfl) (hd 9 (by kernel_rfl))) rfl)
        · exact Free.ob_guard _ rfl 10 44 false rfl rfl fun vals wq hC hd => ⟨Eq.trans (b := vals 10) (by kernel_rfl) (hd 10 (by kernel_rfl)), (by exact Free.d_move rfl (by kernel_rfl) rfl)⟩
        · exact Free.ob_guard _ rfl 10 44 false rfl rfl fun vals wq hC hd => ⟨Eq.trans (b := vals 10) (by kernel_rfl) (hd 10 (by kernel_rfl)), (by exact Free.d_call Try.func17 (by kernel_rfl) (by kernel_rfl) rfl rfl (Free.arg2 (show _ = (.slice none 0 0 : Value) from rfl) (Eq.trans (b := vals 11) (by kernel_rfl) (hd 11 (by kernel_rfl)))) ((HLIST.out wq hC).mono fun e w2 h => h))⟩
        · exact Free.ob_guard _ rfl 10 44 false rfl rfl fun vals wq hC hd => ⟨Eq.trans (b := vals 10) (by kernel_rfl) (hd 10 (by kernel_rfl)), (by obtain ⟨A12, k12, e12, rd12, le12, mx12⟩ := hd 12 (by kernel_rfl); exact Free.d_conv rfl (Eq.trans (b := vals 12) (by kernel_rfl) e12) (run_str (P := Try.prog) 23 9 5 Try.underlying23 Try.underlying5 Try.underlying9 A12 _ k12 _ L rd12 HLL.out) (Below.refl _ _) rfl)⟩
        · exact Free.ob_guard _ rfl 10 44 false rfl rfl fun vals wq hC hd => ⟨Eq.trans (b := vals 10) (by kernel_rfl) (hd 10 (by kernel_rfl)), (by exact Free.d_move rfl (by kernel_rfl) rfl)⟩
        · exact Free.ob_guard _ rfl 10 44 false rfl rfl fun vals wq hC hd => ⟨Eq.trans (b := vals 10) (by kernel_rfl) (hd 10 (by kernel_rfl)), (by exact d_field' (cx := .pointer (some ⟨h0, 0, none⟩)) rfl (by kernel_rfl) (by go_simp) rfl)⟩
        · exact Free.ob_guard _ rfl 10 44 false rfl rfl fun vals wq hC hd => ⟨Eq.trans (b := vals 10) (by kernel_rfl) (hd 10 (by kernel_rfl)), (by exact Free.d_load rfl (Eq.trans (b := vals 15) (by kernel_rfl) (hd 15 (by kernel_rfl))) (by have hcc := HCELL.out wq hC; go_simp) rfl)⟩
        · exact Free.ob_guard _ rfl 10 44 false rfl rfl fun vals wq hC hd => ⟨Eq.trans (b := vals 10) (by kernel_rfl) (hd 10 (by kernel_rfl)), (by exact (by obtain ⟨A', hrun, hrd⟩ := HCUT.out wq hC; exact Free.d_slice rfl (Eq.trans (b := vals 14) (by kernel_rfl) (hd 14 (by kernel_rfl))) rfl (show _ = some (Value.int .i64 (k : Int)) from congrArg some (Eq.trans (b := vals 16) (by kernel_rfl) (hd 16 (by kernel_rfl)))) rfl hrun ⟨A', c, rfl, hrd, HKC.out.1, HKC.out.2⟩))⟩
        · exact Free.ob_guard _ rfl 10 44 false rfl rfl fun vals wq hC hd => ⟨Eq.trans (b := vals 10) (by kernel_rfl) (hd 10 (by kernel_rfl)), (by obtain ⟨A17, k17, e17, rd17, le17, mx17⟩ := hd 17 (by kernel_rfl); exact Free.d_conv rfl (Eq.trans (b := vals 17) (by kernel_rfl) e17) (run_str (P := Try.prog) 23 9 5 Try.underlying23 Try.underlying5 Try.underlying9 A17 _ k17 _ L rd17 HLL.out) (Below.refl _ _) rfl)⟩
        · exact Free.ob_guard _ rfl 10 44 false rfl rfl fun vals wq hC hd => ⟨Eq.trans (b := vals 10) (by kernel_rfl) (hd 10 (by kernel_rfl)), (by exact Free.d_bin rfl (Eq.trans (b := vals 13) (by kernel_rfl) (hd 13 (by kernel_rfl))) (Eq.trans (b := vals 18) (by kernel_rfl) (hd 18 (by kernel_rfl))) (by go_simp) (by rw [run_neq_str']; simp) rfl)⟩
        · exact Free.ob_plain _ rfl rfl fun vals wq hC hd => (by exact Free.d_pick rfl (Eq.trans (b := vals 10) (by kernel_rfl) (hd 10 (by kernel_rfl))) (Eq.trans (b := vals 19) (by kernel_rfl) (hd 19 (by kernel_rfl))) rfl)
      · intro vals wq hC hd
        have e0 : vals 0 = (.pointer (some ⟨h0, 1, none⟩)) := hd 0 (by decide)
        have e1 : vals 1 = (.int .i64 (k : Int)) := hd 1 (by decide)
        have e2 : vals 2 = (.bool false) := hd 2 (by decide)
        have e3 : vals 3 = (.bool false) := hd 3 (by decide)
        have e4 : vals 4 = (.pointer (some ⟨h0, 1, none⟩)) := hd 4 (by decide)
        have e5 : vals 5 = (.int .i64 (k : Int)) := hd 5 (by decide)
        have e6 : vals 6 = (.slice A n c) := hd 6 (by decide)
        have e7 : vals 7 = (.int .i64 (n : Int)) := hd 7 (by decide)
        have e8 : vals 8 = (.bool false) := hd 8 (by decide)
        have e9 : vals 9 = (.bool false) := hd 9 (by decide)
        have e10 : vals 10 = (.bool false) := hd 10 (by decide)
        have e11 : vals 11 = (.slice A2 n2 c2) := hd 11 (by decide)
        obtain ⟨A12, k12, e12, rd12, le12, mx12⟩ := hd 12 (by decide)
        have e13 : vals 13 = (sv L) := hd 13 (by decide)
        have e14 : vals 14 = (.slice A n c) := hd 14 (by decide)
        have e15 : vals 15 = (.pointer (some ⟨h0, 1, none⟩)) := hd 15 (by decide)
        have e16 : vals 16 = (.int .i64 (k : Int)) := hd 16 (by decide)
        obtain ⟨A17, k17, e17, rd17, le17, mx17⟩ := hd 17 (by decide)
        have e18 : vals 18 = (sv L) := hd 18 (by decide)
        have e19 : vals 19 = (.bool false) := hd 19 (by decide)
        have e20 : vals 20 = (.bool false) := hd 20 (by decide)
        simp only [Free.frameOf, List.range, List.range.loop, List.foldl, Free.dstOf, List.getElem?_toArray, List.getElem?_cons_zero, List.getElem?_cons_succ, Option.bind_some, Act.put, List.setIfInBounds_toArray, List.set_cons_zero, List.set_cons_succ, e0, e1, e2, e3, e4, e5, e6, e7, e8, e9, e10, e11, e12, e13, e14, e15, e16, e17, e18, e19, e20]
        refine wpList_nil ?_
        clear hd e0 e1 e2 e3 e4 e5 e6 e7 e8 e9 e10 e11 e12 e13 e14 e15 e16 e17 e18 e19 e20
        have HBQ := Lib.hid (bt HB0.out hC)
        have hrq := (HROW.out.belowS hC (Nat.le_refl _))
        have y1 := hrq.cellQ 1 _ rfl
        have hBq := hB0.keep hC
        clear hC hrq
        obtain ⟨j, hj, hjk⟩ := rem_u64 cut k (by omega)
        have hread := fun (W : World) (A3 : Option Addr) (h : Bs W A3 j c (l.take j)) => (show Calls Try.prog 21 #[rv A3 j c 0 0, .int .i64 50, .int .i64 1000] W (ReadListPost (l.take j) j 0 50 1000 W) from readList_any A3 j c 0 50 1000 (l.take j) W h (by omega) (by omega) (by omega) (by omega) (by omega) (by omega))
        unfold ReadListPost at hread
        rw [List.drop_zero, HP.out j hjk] at hread
        have HREAD := Lib.hid hread
        clear hread
        go_wp2_with (refine wl_cut_hi rfl 23 (.tmp 63) (.tmp 64) rfl 5 Try.underlying23 size_u8 A n c rfl .i64 (j : Int) rfl (by omega) (by omega) hc wq.heap.size (l.map bv) hBq.rd ?_; intro A3 hr3; rw [Int.toNat_natCast, ← List.map_take] at hr3; rw [Int.toNat_natCast])
        refine (HREAD.out _ A3 ⟨hr3, by rw [List.length_take, hBq.len]; omega, by omega, HKC.out.2⟩).mono ?_
        rintro e w3 ⟨A4, c4, ho4, hb4, he, _⟩
        subst he
        have HB4 := Lib.hid (bt HBQ.out (hb4.alloc hb4.size (.cells #[.slice A4 j c4, .int .i64 ((0 : Nat) : Int), .int .i64 ((4 : Nat) : Int)] 37)))
        clear hb4 hj
        go_wp2_with fail
        refine (knows2_any _).mono ?_
        rintro e w5 ⟨rfl, hb5⟩
        have HB5 := Lib.hid (bt HB4.out hb5)
        clear hb5
        go_wp2
        go_ret
        exact ⟨rfl, HB5.out⟩
end Go.Proofs.Ytkkliblndglniaa
