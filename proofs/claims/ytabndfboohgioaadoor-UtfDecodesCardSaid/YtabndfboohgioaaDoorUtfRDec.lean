/- The walk of the reference's Decode. -/
import Derived.Test.YtabndfboohgioaaDoorUtfBeg
import Derived.Test.YtabndfboohgioaaDoorFree
namespace Go.Proofs.YtabndfboohgioaaDoor
set_option linter.unusedVariables false
open Go.RowKit

structure RRel (l : List UInt8) (w : World) (v : Value) (i : Nat) (done : List Int) (wr : World) : Prop where
  le : i ≤ l.length
  own : wr.ownsRow w.heap.size 3 1 v done.length (done.map iv)
  val : Utf.dec l = done ++ Utf.dec (l.drop i)
  size : done.length ≤ i
  bel : Below w.heap.size w wr
def RDecPost (l : List UInt8) (w : World) (e : Ending) (w' : World) : Prop :=
  ∃ v, e = .returned v ∧ w'.ownsRow w.heap.size 3 1 v (Utf.dec l).length ((Utf.dec l).map iv) ∧ Below w.heap.size w w'
theorem best_bd {l : List UInt8} {k : Nat} {c : Int} {n : Nat} (h : Utf.Best l k c n) (hk : k ≤ 5) (hl : l ≠ []) : 0 < n ∧ n ≤ 4 ∧ n ≤ l.length := by
  have := List.length_pos_iff.2 hl
  rcases h with ⟨j, h1, h2, _, h4⟩ | ⟨_, _, h3⟩
  · have h5 := Utf.right_long l j h2.1
    have h6 := Utf.hit_first l j h2
    have h7 := Utf.first_pos l
    rw [h6] at h7
    simp only at h7
    omega
  · omega
set_option maxRecDepth 100000 in
set_option maxHeartbeats 4000000 in
theorem rdecode_any (A : Option Addr) (n c : Nat) (l : List UInt8) (w : World) (hr : Rd w w.heap.size A (l.map bv)) (hn : l.length = n) (hc : n ≤ c) (hm : c ≤ maxLen) (hsz : n ≤ 1099511627776) :
    Calls Tryd.prog 12 #[.slice A n c] w (RDecPost l w) := by
  have h0 : RRel l w (.slice none 0 0) 0 [] w := ⟨Nat.zero_le _, World.ownsRow_nil _ _ _ _, rfl, Nat.le_refl _, Below.refl _ _⟩
  have HR := Lib.hid hr; have HN := Lib.hid hn; have HM := Lib.hid hm
  rw [maxLen_eq] at hm
  clear hr hn
  go_enter Tryd.func12, Tryd.ntmps12
  go_wp2_with fail
  go_loopw [3, 4] (fun v i wr => ∃ (k : Nat) (done : List Int), i = .int .i64 k ∧ RRel l w v k done wr) (fun _ i _ => n - (intOf i).toNat)
  case atStart => exact ⟨0, _, rfl, h0⟩
  case round =>
    clear h0
    obtain ⟨i, done, rfl, h⟩ := hrel
    have hle := h.le
    have hB : w.heap.size ≤ wr.heap.size := h.bel.size
    have hds := h.size
    have HH := Lib.hid h
    have hin : i ≤ n := by have := HN.out; omega
    clear h hle
    by_cases hi : i < n
    · obtain ⟨R, hR⟩ : ∃ R, l.drop i = R := ⟨_, rfl⟩
      have hRl : R.length = n - i := by rw [← hR, List.length_drop, HN.out]
      have hRne : R ≠ [] := by intro e; rw [e] at hRl; simp at hRl; omega
      obtain ⟨b, off, hA, hlt, hcell⟩ := HR.out (by intro e; simp at e; subst e; have := HN.out; simp at this; omega)
      subst hA
      have hrR : Rd w w.heap.size (some ⟨b, off + i, none⟩) (R.map bv) := by
        have := HR.out.drop i
        rw [← List.map_drop, hR] at this
        by_cases hi0 : i = 0
        · subst hi0; simpa [Addr.add] using this
        · simpa [Addr.add, hi0] using this
      have HRR := Lib.hid hrR; have HRL := Lib.hid hRl; have HRN := Lib.hid hRne; have HRE := Lib.hid hR
      clear hcell hrR hRl hRne hR
      go_wp2_with fail
      obtain ⟨wo, rfl⟩ : ∃ wo : World, wo = wr := ⟨_, rfl⟩
      go_loopw [5, 6, 7] (fun cc nn kk wx => ∃ (k : Nat) (d : Int) (m : Nat), kk = .int .i64 k ∧ cc = .int .i64 d ∧ nn = .int .i64 m ∧ 1 ≤ k ∧ k ≤ 5 ∧ Utf.Best R k d m ∧ Below wo.heap.size wo wx) (fun _ _ kk _ => 5 - (intOf kk).toNat)
      case atStart => exact ⟨1, _, 1, rfl, rfl, rfl, by omega, by omega, Utf.best_start R, Below.refl _ _⟩
      case round =>
        obtain ⟨k, d, m, rfl, rfl, rfl, k1, k5, hbest, hbw⟩ := hrel
        have HBE := Lib.hid hbest; have HBW := Lib.hid hbw
        have hz : wo.heap.size ≤ wr.heap.size := hbw.size
        clear hbest hbw
        have hrd : Rd wr w.heap.size (some ⟨b, off, none⟩) (l.map bv) := (HR.out.below HH.out.bel).below' HBW.out hB
        have HRD := Lib.hid hrd
        clear hrd
        by_cases hk : k ≤ 4
        · have hk' : (k : Int) ≤ 4 := by omega
          have k1' : (1 : Int) ≤ (k : Int) := by omega
          obtain ⟨x, hx⟩ : ∃ x, Utf.beg R k = x := ⟨_, rfl⟩
          have HX := Lib.hid hx
          clear hx
          go_wp2_with (first
            | (refine wl_cut_lo rfl 22 (.tmp 17) (.tmp 18) rfl 5 Tryd.underlying22 size_u8 (some ⟨b, off, none⟩) n c rfl .i64 (i : Int) rfl (by omega) (by omega) hc w.heap.size _ HRD.out (by simpa using HN.out) ?_; intro A' hr'; have hr2 : Rd wr wr.heap.size A' (R.map bv) := (by have h := hr'; rw [Int.toNat_natCast, ← List.map_drop, HRE.out] at h; exact h.more (by omega)); have HR2 := Lib.hid hr2; clear hr' hr2)
            | (go_at_call 23; (with_reducible refine (begins_any A' (n - i) (c - i) R k wr HR2.out HRL.out (by omega) (by rw [maxLen_eq]; omega) HRN.out k1 hk).mono ?_); rintro e w1 ⟨rfl, hb1, x0, x1⟩; rw [HX.out] at x0 x1; rw [HX.out]; have HB1 := Lib.hid (HBW.out.trans (hb1.mono hz)); have hz1 := hb1.size; clear hb1)
            | fail)
          have hw1 : w.heap.size ≤ w1.heap.size := by omega
          by_cases hrx : Utf.right x = true
          · have hkn : k ≤ n - i := by
              have := Utf.right_long R k (by rw [HX.out]; exact hrx)
              rw [HRL.out] at this; exact this
            have hle2 : (i : Int) + (k : Int) ≤ (n : Int) := by omega
            have hwr : IntKind.i64.wrap ((i : Int) + (k : Int)) = (i : Int) + (k : Int) := IntWalk.i64_in _ (by omega)
            have hic : ¬ c = i := by omega
            have hcc : (i : Int) + (k : Int) ≤ (c : Int) := by omega
            have hit := Utf.hit_iff HX.out hrx
            have HIT := Lib.hid hit
            have HRX := Lib.hid hrx
            have hrk : Rd w1 w.heap.size (some ⟨b, off + i, none⟩) ((R.take k).map bv) := by
              rw [List.map_take]
              exact ((HRR.out.below HH.out.bel).below' HB1.out hB).take k
            have HRk := Lib.hid hrk
            have HRkl := Lib.hid (by rw [List.length_take, HRL.out]; omega : (R.take k).length = k)
            clear hit hrx hrk
            have hsl : ∀ W : World, (Instr.sliceAt 22 (.slice (some ⟨b, off, none⟩) n c) (some (.int .i64 (i : Int))) (some (.int .i64 ((i : Int) + (k : Int)))) none).run Tryd.prog W = .ok (.slice (some ⟨b, off + i, none⟩) k (c - i)) W := fun W => by
              have h := run_cut (P := Tryd.prog) (w := W) 22 5 Tryd.underlying22 size_u8 b off n c i (i + k) .i64 .i64 (i : Int) ((i : Int) + (k : Int)) rfl (by omega) (by omega) (by omega) (by omega)
              rw [show i + k - i = k by omega] at h
              exact h
            refine Free.wp_free_l 18 (fun W => Below w1.heap.size w1 W) [Free.kc (.int .i64 x), Free.kc (.bool true), Free.kc (.bool true), Free.kc (.int .i64 x), Free.kr ((Utf.enc x).length) ((Utf.enc x).map bv), Free.kc (.string (str (Utf.enc x))), Free.kc (.slice (some ⟨b, off, none⟩) n c), Free.kc (.int .i64 (i : Int)), Free.kc (.int .i64 (i : Int)), Free.kc (.int .i64 (k : Int)), Free.kc (.int .i64 ((i : Int) + (k : Int))), Free.kc (.slice (some ⟨b, off, none⟩) n c), Free.kc (.int .i64 (n : Int)), Free.kc (.int .i64 ((i : Int) + (k : Int))), Free.kc (.slice (some ⟨b, off + i, none⟩) k (c - i)), Free.kc (.string (str (R.take k))), Free.kc (.bool (decide (Utf.enc x = R.take k))), Free.kc (.bool (decide (Utf.enc x = R.take k)))] (by kernel_rfl) (by kernel_rfl) (by decide) (Below.refl _ _).drew (fun w w' h g => bt h g) ?_ ?_
            · refine Free.forall_succ (Free.forall_succ (Free.forall_succ (Free.forall_succ (Free.forall_succ (Free.forall_succ (Free.forall_succ (Free.forall_succ (Free.forall_succ (Free.forall_succ (Free.forall_succ (Free.forall_succ (Free.forall_succ (Free.forall_succ (Free.forall_succ (Free.forall_succ (Free.forall_succ (Free.forall_succ (Free.forall_zero) ?_) ?_) ?_) ?_) ?_) ?_) ?_) ?_) ?_) ?_) ?_) ?_) ?_) ?_) ?_) ?_) ?_) ?_
              · exact Free.ob_plain _ rfl rfl fun vals wq hC hd => (by exact Free.d_move rfl (by kernel_rfl) rfl)
              · exact Free.ob_plain _ rfl rfl fun vals wq hC hd => (by exact Free.d_call Tryd.func20 (by kernel_rfl) (by kernel_rfl) rfl rfl (Free.arg1 (Eq.trans (b := vals 0) (by kernel_rfl) (hd 0 (by kernel_rfl)))) ((rright_any x wq).mono fun e w2 h => ⟨_, h.1, (by rw [HRX.out]; rfl), (by have h2 := h.2; subst h2; exact Below.refl _ _)⟩))
              · exact Free.ob_plain _ rfl rfl fun vals wq hC hd => (by exact Free.d_move rfl (Eq.trans (b := vals 1) (by kernel_rfl) (hd 1 (by kernel_rfl))) rfl)
              · exact Free.ob_guard _ rfl 2 24 true rfl rfl fun vals wq hC hd => ⟨Eq.trans (b := vals 2) (by kernel_rfl) (hd 2 (by kernel_rfl)), (by exact Free.d_move rfl (by kernel_rfl) rfl)⟩
              · exact Free.ob_guard _ rfl 2 24 true rfl rfl fun vals wq hC hd => ⟨Eq.trans (b := vals 2) (by kernel_rfl) (hd 2 (by kernel_rfl)), (by exact Free.d_call Tryd.func21 (by kernel_rfl) (by kernel_rfl) rfl rfl (Free.arg1 (Eq.trans (b := vals 3) (by kernel_rfl) (hd 3 (by kernel_rfl)))) ((rencode_any x wq HRX.out).mono fun e w2 h => (by obtain ⟨A2, k2, he, hr2, hk3, hk4, hb2⟩ := h; exact ⟨_, he, ⟨A2, k2, rfl, hr2, hk3, hk4⟩, hb2⟩)))⟩
              · exact Free.ob_guard _ rfl 2 24 true rfl rfl fun vals wq hC hd => ⟨Eq.trans (b := vals 2) (by kernel_rfl) (hd 2 (by kernel_rfl)), (by obtain ⟨A4, k4, e4, rd4, le4, mx4⟩ := hd 4 (by kernel_rfl); exact Free.d_conv rfl (Eq.trans (b := vals 4) (by kernel_rfl) e4) (run_str (P := Tryd.prog) (w := wq) 22 9 5 Tryd.underlying22 Tryd.underlying5 Tryd.underlying9 A4 (_) (k4) (wq.heap.size) (Utf.enc x) (rd4) (rfl)) (Below.refl _ _) rfl)⟩
              · exact Free.ob_guard _ rfl 2 24 true rfl rfl fun vals wq hC hd => ⟨Eq.trans (b := vals 2) (by kernel_rfl) (hd 2 (by kernel_rfl)), (by exact Free.d_move rfl (by kernel_rfl) rfl)⟩
              · exact Free.ob_guard _ rfl 2 24 true rfl rfl fun vals wq hC hd => ⟨Eq.trans (b := vals 2) (by kernel_rfl) (hd 2 (by kernel_rfl)), (by exact Free.d_move rfl (by kernel_rfl) rfl)⟩
              · exact Free.ob_guard _ rfl 2 24 true rfl rfl fun vals wq hC hd => ⟨Eq.trans (b := vals 2) (by kernel_rfl) (hd 2 (by kernel_rfl)), (by exact Free.d_move rfl (by kernel_rfl) rfl)⟩
              · exact Free.ob_guard _ rfl 2 24 true rfl rfl fun vals wq hC hd => ⟨Eq.trans (b := vals 2) (by kernel_rfl) (hd 2 (by kernel_rfl)), (by exact Free.d_move rfl (by kernel_rfl) rfl)⟩
              · exact Free.ob_guard _ rfl 2 24 true rfl rfl fun vals wq hC hd => ⟨Eq.trans (b := vals 2) (by kernel_rfl) (hd 2 (by kernel_rfl)), (by exact Free.d_bin rfl (Eq.trans (b := vals 8) (by kernel_rfl) (hd 8 (by kernel_rfl))) (Eq.trans (b := vals 9) (by kernel_rfl) (hd 9 (by kernel_rfl))) (by go_simp) (by go_simp) rfl)⟩
              · exact Free.ob_guard _ rfl 2 24 true rfl rfl fun vals wq hC hd => ⟨Eq.trans (b := vals 2) (by kernel_rfl) (hd 2 (by kernel_rfl)), (by exact Free.d_move rfl (by kernel_rfl) rfl)⟩
              · exact Free.ob_guard _ rfl 2 24 true rfl rfl fun vals wq hC hd => ⟨Eq.trans (b := vals 2) (by kernel_rfl) (hd 2 (by kernel_rfl)), (by exact Free.d_len rfl Tryd.underlying22 (Eq.trans (b := vals 11) (by kernel_rfl) (hd 11 (by kernel_rfl))) rfl)⟩
              · exact Free.ob_guard _ rfl 2 24 true rfl rfl fun vals wq hC hd => ⟨Eq.trans (b := vals 2) (by kernel_rfl) (hd 2 (by kernel_rfl)), (by exact Free.d_call Tryd.func24 (by kernel_rfl) (by kernel_rfl) rfl rfl (Free.arg2 (Eq.trans (b := vals 10) (by kernel_rfl) (hd 10 (by kernel_rfl))) (Eq.trans (b := vals 12) (by kernel_rfl) (hd 12 (by kernel_rfl)))) ((least_any _ _ wq hle2).mono fun e w2 h => ⟨_, h.1, rfl, (by have h2 := h.2; subst h2; exact Below.refl _ _)⟩))⟩
              · exact Free.ob_guard _ rfl 2 24 true rfl rfl fun vals wq hC hd => ⟨Eq.trans (b := vals 2) (by kernel_rfl) (hd 2 (by kernel_rfl)), (by exact Free.d_slice rfl (Eq.trans (b := vals 6) (by kernel_rfl) (hd 6 (by kernel_rfl))) (congrArg some (Eq.trans (b := vals 7) (by kernel_rfl) (hd 7 (by kernel_rfl)))) (congrArg some (Eq.trans (b := vals 13) (by kernel_rfl) (hd 13 (by kernel_rfl)))) rfl (hsl wq) rfl)⟩
              · exact Free.ob_guard _ rfl 2 24 true rfl rfl fun vals wq hC hd => ⟨Eq.trans (b := vals 2) (by kernel_rfl) (hd 2 (by kernel_rfl)), (by exact Free.d_conv rfl (Eq.trans (b := vals 14) (by kernel_rfl) (hd 14 (by kernel_rfl))) (run_str (P := Tryd.prog) (w := wq) 22 9 5 Tryd.underlying22 Tryd.underlying5 Tryd.underlying9 (some ⟨b, off + i, none⟩) (k) (c - i) (w.heap.size) (R.take k) (HRk.out.below' hC hw1) (HRkl.out)) (Below.refl _ _) rfl)⟩
              · exact Free.ob_guard _ rfl 2 24 true rfl rfl fun vals wq hC hd => ⟨Eq.trans (b := vals 2) (by kernel_rfl) (hd 2 (by kernel_rfl)), (by exact Free.d_bin rfl (Eq.trans (b := vals 5) (by kernel_rfl) (hd 5 (by kernel_rfl))) (Eq.trans (b := vals 15) (by kernel_rfl) (hd 15 (by kernel_rfl))) (by go_simp) (run_eql_str _ _ _) rfl)⟩
              · exact Free.ob_plain _ rfl rfl fun vals wq hC hd => (by exact Free.d_pick rfl (Eq.trans (b := vals 2) (by kernel_rfl) (hd 2 (by kernel_rfl))) (Eq.trans (b := vals 16) (by kernel_rfl) (hd 16 (by kernel_rfl))) rfl)
            · intro vals wq hC hd
              have e0 : vals 0 = (.int .i64 x) := hd 0 (by decide)
              have e1 : vals 1 = (.bool true) := hd 1 (by decide)
              have e2 : vals 2 = (.bool true) := hd 2 (by decide)
              have e3 : vals 3 = (.int .i64 x) := hd 3 (by decide)
              obtain ⟨A4, k4, e4, rd4, le4, mx4⟩ := hd 4 (by decide)
              have e5 : vals 5 = (.string (str (Utf.enc x))) := hd 5 (by decide)
              have e6 : vals 6 = (.slice (some ⟨b, off, none⟩) n c) := hd 6 (by decide)
              have e7 : vals 7 = (.int .i64 (i : Int)) := hd 7 (by decide)
              have e8 : vals 8 = (.int .i64 (i : Int)) := hd 8 (by decide)
              have e9 : vals 9 = (.int .i64 (k : Int)) := hd 9 (by decide)
              have e10 : vals 10 = (.int .i64 ((i : Int) + (k : Int))) := hd 10 (by decide)
              have e11 : vals 11 = (.slice (some ⟨b, off, none⟩) n c) := hd 11 (by decide)
              have e12 : vals 12 = (.int .i64 (n : Int)) := hd 12 (by decide)
              have e13 : vals 13 = (.int .i64 ((i : Int) + (k : Int))) := hd 13 (by decide)
              have e14 : vals 14 = (.slice (some ⟨b, off + i, none⟩) k (c - i)) := hd 14 (by decide)
              have e15 : vals 15 = (.string (str (R.take k))) := hd 15 (by decide)
              have e16 : vals 16 = (.bool (decide (Utf.enc x = R.take k))) := hd 16 (by decide)
              have e17 : vals 17 = (.bool (decide (Utf.enc x = R.take k))) := hd 17 (by decide)
              simp only [Free.frameOf, List.range, List.range.loop, List.foldl, Free.dstOf, List.getElem?_toArray, List.getElem?_cons_zero, List.getElem?_cons_succ, Option.bind_some, Act.put, List.setIfInBounds_toArray, List.set_cons_zero, List.set_cons_succ, e0, e1, e2, e3, e4, e5, e6, e7, e8, e9, e10, e11, e12, e13, e14, e15, e16, e17]
              refine wpList_nil ?_
              clear hd e0 e1 e2 e3 e4 e5 e6 e7 e8 e9 e10 e11 e12 e13 e14 e15 e16 e17
              by_cases he : Utf.enc x = R.take k
              · have hh := (HIT.out).2 he
                have HST := Lib.hid (by have := Utf.best_hit HBE.out hh; rw [HX.out] at this; exact this)
                have hdec : decide (Utf.enc x = R.take k) = true := decide_eq_true he
                simp only [hdec]
                clear hdec he hh hwr hsl hic
                go_wp2
                go_roundw
                case rel => exact ⟨k + 1, _, _, by go_num, rfl, rfl, by omega, by omega, HST.out, HB1.out.trans (hC.mono (Nat.le_trans hz hz1))⟩
                case measure => simp [intOf]; omega
              · have HST := Lib.hid (Utf.best_miss HBE.out fun hh => he ((HIT.out).1 hh))
                have hdec : decide (Utf.enc x = R.take k) = false := decide_eq_false he
                simp only [hdec]
                clear hdec he hwr hsl hic
                go_wp2
                go_roundw
                case rel => exact ⟨k + 1, _, _, by go_num, rfl, rfl, by omega, by omega, HST.out, HB1.out.trans (hC.mono (Nat.le_trans hz hz1))⟩
                case measure => simp [intOf]; omega
          · have HRX := Lib.hid (by simpa using hrx : Utf.right x = false)
            clear hrx
            refine Free.wp_free_l 18 (fun W => Below w1.heap.size w1 W) [Free.kc (.int .i64 x), Free.kc (.bool false), Free.kc (.bool false), Free.kc (undef), Free.kc (undef), Free.kc (undef), Free.kc (undef), Free.kc (undef), Free.kc (undef), Free.kc (undef), Free.kc (undef), Free.kc (undef), Free.kc (undef), Free.kc (undef), Free.kc (undef), Free.kc (undef), Free.kc (undef), Free.kc (.bool false)] (by kernel_rfl) (by kernel_rfl) (by decide) (Below.refl _ _).drew (fun w w' h g => bt h g) ?_ ?_
            · refine Free.forall_succ (Free.forall_succ (Free.forall_succ (Free.forall_succ (Free.forall_succ (Free.forall_succ (Free.forall_succ (Free.forall_succ (Free.forall_succ (Free.forall_succ (Free.forall_succ (Free.forall_succ (Free.forall_succ (Free.forall_succ (Free.forall_succ (Free.forall_succ (Free.forall_succ (Free.forall_succ (Free.forall_zero) ?_) ?_) ?_) ?_) ?_) ?_) ?_) ?_) ?_) ?_) ?_) ?_) ?_) ?_) ?_) ?_) ?_) ?_
              · exact Free.ob_plain _ rfl rfl fun vals wq hC hd => (by exact Free.d_move rfl (by kernel_rfl) rfl)
              · exact Free.ob_plain _ rfl rfl fun vals wq hC hd => (by exact Free.d_call Tryd.func20 (by kernel_rfl) (by kernel_rfl) rfl rfl (Free.arg1 (Eq.trans (b := vals 0) (by kernel_rfl) (hd 0 (by kernel_rfl)))) ((rright_any x wq).mono fun e w2 h => ⟨_, h.1, (by rw [HRX.out]; rfl), (by have h2 := h.2; subst h2; exact Below.refl _ _)⟩))
              · exact Free.ob_plain _ rfl rfl fun vals wq hC hd => (by exact Free.d_move rfl (Eq.trans (b := vals 1) (by kernel_rfl) (hd 1 (by kernel_rfl))) rfl)
              · exact Free.ob_skip _ rfl 2 24 true rfl rfl fun vals wq hC hd => ⟨.inl (Eq.trans (b := vals 2) (by kernel_rfl) (hd 2 (by kernel_rfl))), rfl⟩
              · exact Free.ob_skip _ rfl 2 24 true rfl rfl fun vals wq hC hd => ⟨.inl (Eq.trans (b := vals 2) (by kernel_rfl) (hd 2 (by kernel_rfl))), rfl⟩
              · exact Free.ob_skip _ rfl 2 24 true rfl rfl fun vals wq hC hd => ⟨.inl (Eq.trans (b := vals 2) (by kernel_rfl) (hd 2 (by kernel_rfl))), rfl⟩
              · exact Free.ob_skip _ rfl 2 24 true rfl rfl fun vals wq hC hd => ⟨.inl (Eq.trans (b := vals 2) (by kernel_rfl) (hd 2 (by kernel_rfl))), rfl⟩
              · exact Free.ob_skip _ rfl 2 24 true rfl rfl fun vals wq hC hd => ⟨.inl (Eq.trans (b := vals 2) (by kernel_rfl) (hd 2 (by kernel_rfl))), rfl⟩
              · exact Free.ob_skip _ rfl 2 24 true rfl rfl fun vals wq hC hd => ⟨.inl (Eq.trans (b := vals 2) (by kernel_rfl) (hd 2 (by kernel_rfl))), rfl⟩
              · exact Free.ob_skip _ rfl 2 24 true rfl rfl fun vals wq hC hd => ⟨.inl (Eq.trans (b := vals 2) (by kernel_rfl) (hd 2 (by kernel_rfl))), rfl⟩
              · exact Free.ob_skip _ rfl 2 24 true rfl rfl fun vals wq hC hd => ⟨.inl (Eq.trans (b := vals 2) (by kernel_rfl) (hd 2 (by kernel_rfl))), rfl⟩
              · exact Free.ob_skip _ rfl 2 24 true rfl rfl fun vals wq hC hd => ⟨.inl (Eq.trans (b := vals 2) (by kernel_rfl) (hd 2 (by kernel_rfl))), rfl⟩
              · exact Free.ob_skip _ rfl 2 24 true rfl rfl fun vals wq hC hd => ⟨.inl (Eq.trans (b := vals 2) (by kernel_rfl) (hd 2 (by kernel_rfl))), rfl⟩
              · exact Free.ob_skip _ rfl 2 24 true rfl rfl fun vals wq hC hd => ⟨.inl (Eq.trans (b := vals 2) (by kernel_rfl) (hd 2 (by kernel_rfl))), rfl⟩
              · exact Free.ob_skip _ rfl 2 24 true rfl rfl fun vals wq hC hd => ⟨.inl (Eq.trans (b := vals 2) (by kernel_rfl) (hd 2 (by kernel_rfl))), rfl⟩
              · exact Free.ob_skip _ rfl 2 24 true rfl rfl fun vals wq hC hd => ⟨.inl (Eq.trans (b := vals 2) (by kernel_rfl) (hd 2 (by kernel_rfl))), rfl⟩
              · exact Free.ob_skip _ rfl 2 24 true rfl rfl fun vals wq hC hd => ⟨.inl (Eq.trans (b := vals 2) (by kernel_rfl) (hd 2 (by kernel_rfl))), rfl⟩
              · exact Free.ob_plain _ rfl rfl fun vals wq hC hd => (by exact Free.d_pick rfl (Eq.trans (b := vals 2) (by kernel_rfl) (hd 2 (by kernel_rfl))) rfl rfl)
            · intro vals wq hC hd
              have e0 : vals 0 = (.int .i64 x) := hd 0 (by decide)
              have e1 : vals 1 = (.bool false) := hd 1 (by decide)
              have e2 : vals 2 = (.bool false) := hd 2 (by decide)
              have e3 : vals 3 = (undef) := hd 3 (by decide)
              have e4 : vals 4 = (undef) := hd 4 (by decide)
              have e5 : vals 5 = (undef) := hd 5 (by decide)
              have e6 : vals 6 = (undef) := hd 6 (by decide)
              have e7 : vals 7 = (undef) := hd 7 (by decide)
              have e8 : vals 8 = (undef) := hd 8 (by decide)
              have e9 : vals 9 = (undef) := hd 9 (by decide)
              have e10 : vals 10 = (undef) := hd 10 (by decide)
              have e11 : vals 11 = (undef) := hd 11 (by decide)
              have e12 : vals 12 = (undef) := hd 12 (by decide)
              have e13 : vals 13 = (undef) := hd 13 (by decide)
              have e14 : vals 14 = (undef) := hd 14 (by decide)
              have e15 : vals 15 = (undef) := hd 15 (by decide)
              have e16 : vals 16 = (undef) := hd 16 (by decide)
              have e17 : vals 17 = (.bool false) := hd 17 (by decide)
              simp only [Free.frameOf, List.range, List.range.loop, List.foldl, Free.dstOf, List.getElem?_toArray, List.getElem?_cons_zero, List.getElem?_cons_succ, Option.bind_some, Act.put, List.setIfInBounds_toArray, List.set_cons_zero, List.set_cons_succ, e0, e1, e2, e3, e4, e5, e6, e7, e8, e9, e10, e11, e12, e13, e14, e15, e16, e17]
              refine wpList_nil ?_
              clear hd e0 e1 e2 e3 e4 e5 e6 e7 e8 e9 e10 e11 e12 e13 e14 e15 e16 e17
              have HST := Lib.hid (Utf.best_miss HBE.out (Utf.hit_no HX.out HRX.out))
              go_wp2
              go_roundw
              case rel => exact ⟨k + 1, _, _, by go_num, rfl, rfl, by omega, by omega, HST.out, HB1.out.trans (hC.mono (Nat.le_trans hz hz1))⟩
              case measure => simp [intOf]; omega
        · obtain rfl : k = 5 := by omega
          have hf := Utf.best_end HRN.out HBE.out
          have hbb := best_bd HBE.out (by omega) HRN.out
          have hRl := HRL.out
          have HF := Lib.hid hf
          have hm1 : m ≤ n - i := by omega
          have hm0 : 0 < m := by omega
          have hdn : done.length ≤ n := by omega
          clear hf hbb hRl
          have HO := Lib.hid (own_keep HH.out.own HBW.out (Nat.le_refl _))
          have hBB : w.heap.size ≤ wr.heap.size := by omega
          go_wp2_with (first
            | (at_builtin; refine wl_app rfl (.tmp 42) (.tmp 44) 24 rfl w.heap.size 3 1 8 intsT _ done.length (done.map iv) rfl (HO.out.alloc _) (wr.heap.size + 1) (some ⟨wr.heap.size, 0, none⟩) 1 1 [iv d] rfl (rd_new wr [iv d] 3 (0, 0)) rfl (by simp [iv, Value.oneCell']) (by rw [maxLen_eq]; omega) (by omega) (by simp; omega) ?_; intro A1 c1 w1 hown1 hg1 hat1 hb1 hc1 hc2; have HO1 := Lib.hid hown1; have HB1 := Lib.hid (((HH.out.bel.trans (HBW.out.mono hB)).alloc hBB _).trans hb1); clear hg1 hat1 hb1 hc1 hc2 hown1)
            | fail)
          go_roundw
          case rel =>
            refine ⟨i + m, done ++ [d], by go_num, ⟨by have := HN.out; omega, by simpa using HO1.out, ?_, by simp; omega, HB1.out⟩⟩
            rw [HH.out.val, HRE.out, Utf.dec_step R HRN.out, HF.out, ← HRE.out, List.drop_drop]
            simp
          case measure => simp [intOf]; omega
    · obtain rfl : i = n := by omega
      have hv : Utf.dec l = done := by
        have := HH.out.val
        rw [List.drop_of_length_le (by rw [HN.out]; exact Nat.le_refl _), Utf.dec_nil, List.append_nil] at this
        exact this
      have HV := Lib.hid hv
      clear hv
      go_wp2
      go_ret
      exact ⟨_, rfl, by rw [HV.out]; exact HH.out.own, HH.out.bel⟩
end Go.Proofs.YtabndfboohgioaaDoor
