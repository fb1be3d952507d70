/- one and Hex, of the reference. No statement of the seat is proved here. -/
import Derived.Test.YtcnjpcmadkkhfaaDoorShaUnhex
import Derived.Test.YtcnjpcmadkkhfaaDoorShaRef4
namespace Go.Proofs.YtcnjpcmadkkhfaaDoor
set_option linter.unusedVariables false
open Go.RowKit

theorem one_any (v : Nat) (h : v < 16) (w : World) : Calls Tryd.prog 45 #[.int .u8 (v : Int)] w fun e w' => e = .returned (.int .u8 ((Hex.dg v).toNat : Int)) ∧ w = w' := by
  by_cases h10 : v < 10
  · have hv : ((Hex.dg v).toNat : Int) = 48 + (v : Int) := by
      unfold Hex.dg
      rw [if_pos h10, UInt8.toNat_ofNat']; omega
    rw [hv]
    go_enter Tryd.func45, Tryd.ntmps45
    go_wp2
    go_ret
    exact ⟨rfl, rfl⟩
  · have hv : ((Hex.dg v).toNat : Int) = 97 + (v : Int) - 10 := by
      unfold Hex.dg
      rw [if_neg h10, UInt8.toNat_ofNat']; omega
    rw [hv]
    go_enter Tryd.func45, Tryd.ntmps45
    go_wp2
    go_ret
    exact ⟨rfl, rfl⟩
set_option maxRecDepth 100000 in
set_option maxHeartbeats 4000000 in
theorem rhex_any (l : List UInt8) (w : World) (hb : l.length ≤ 1099511627776) : Calls Tryd.prog 22 #[sv l] w (HexPost l w) := by
  have hsz := str_size l
  obtain ⟨n, hn⟩ : ∃ n, l.length = n := ⟨_, rfl⟩
  rw [hn] at hsz hb
  have HN := Lib.hid hn
  clear hn
  go_enter Tryd.func22, Tryd.ntmps22
  go_wp2
  go_loopw [3, 4] (fun v q wr => ∃ (i u : Nat) (A6 : Option Addr) (c6 : Nat), i ≤ n ∧ q = .int .i64 i ∧ u = 2 * i ∧ v = .slice A6 u c6 ∧ u ≤ c6 ∧ c6 ≤ 9223372036854775807 ∧ wr.ownsRow w.heap.size 5 1 (.slice A6 u c6) u ((Hex.hex (l.take i)).map bv) ∧ Below w.heap.size w wr) (fun _ q _ => n - (intOf q).toNat)
  case atStart => exact ⟨0, 0, none, 0, by omega, rfl, rfl, rfl, Nat.le_refl _, by omega, own_nil _ _ _ _, Below.refl _ _⟩
  case round =>
    obtain ⟨i, u, A6, c6, hi, rfl, hu, rfl, hc6, hc6', hown, hbel⟩ := hrel
    have HO := Lib.hid hown
    have HB := Lib.hid hbel
    have HU := Lib.hid hu
    have hu2 : u ≤ 2 * n := by omega
    clear hown hbel hu
    by_cases hlt : i < n
    · obtain ⟨b, hbi⟩ : ∃ b, l[i]? = some b := ⟨_, List.getElem?_eq_getElem (by have := HN.out; omega)⟩
      have HBI := Lib.hid hbi
      have hb0 := b.toNat_lt
      clear hbi
      go_wp2_with fail
      have hbi := HBI.out
      have td : ((b.toNat : Nat) : Int).tdiv 16 = (b.toNat : Int) / 16 := Int.tdiv_eq_ediv_of_nonneg (by omega)
      have tm : ((b.toNat : Nat) : Int).tmod 16 = (b.toNat : Int) % 16 := Int.tmod_eq_emod_of_nonneg (by omega)
      refine Free.wp_free_l 12 (fun W => Below wr.heap.size wr W) [Free.kc (.slice A6 u c6), Free.kc (.string (str l)), Free.kc (.int .i64 (i : Int)), Free.kc (.int .u8 (b.toNat : Int)), Free.kc (.int .u8 ((b.toNat : Int) / 16)), Free.kc (.int .u8 ((Hex.dg (b.toNat / 16)).toNat : Int)), Free.kc (.string (str l)), Free.kc (.int .i64 (i : Int)), Free.kc (.int .u8 (b.toNat : Int)), Free.kc (.int .u8 ((b.toNat : Int) % 16)), Free.kc (.int .u8 ((Hex.dg (b.toNat % 16)).toNat : Int)), Free.kr (2) ([.int .u8 ((Hex.dg (b.toNat / 16)).toNat : Int), .int .u8 ((Hex.dg (b.toNat % 16)).toNat : Int)])] (by kernel_rfl) (by kernel_rfl) (by decide) (Below.refl _ _).drew (fun w w' h g => bt h g) ?_ ?_
      · refine Free.forall_succ (Free.forall_succ (Free.forall_succ (Free.forall_succ (Free.forall_succ (Free.forall_succ (Free.forall_succ (Free.forall_succ (Free.forall_succ (Free.forall_succ (Free.forall_succ (Free.forall_succ (Free.forall_zero) ?_) ?_) ?_) ?_) ?_) ?_) ?_) ?_) ?_) ?_) ?_) ?_
        · exact Free.ob_plain _ rfl rfl fun vals wq hC hd => (by exact Free.d_move rfl (by kernel_rfl) rfl)
        · exact Free.ob_plain _ rfl rfl fun vals wq hC hd => (by exact Free.d_move rfl (by kernel_rfl) rfl)
        · exact Free.ob_plain _ rfl rfl fun vals wq hC hd => (by exact Free.d_move rfl (by kernel_rfl) rfl)
        · exact Free.ob_plain _ rfl rfl fun vals wq hC hd => (by exact Free.d_index rfl (Eq.trans (b := vals 1) (by kernel_rfl) (hd 1 (by kernel_rfl))) (Eq.trans (b := vals 2) (by kernel_rfl) (hd 2 (by kernel_rfl))) (run_idx_str l i b hbi Tryd.underlying9) rfl)
        · exact Free.ob_plain _ rfl rfl fun vals wq hC hd => (by exact Free.d_bin rfl (Eq.trans (b := vals 3) (by kernel_rfl) (hd 3 (by kernel_rfl))) (show _ = (.int .u8 16 : Value) from rfl) (by go_simp) (by first | (go_simp; done) | (go_simp; rw [IntWalk.u8_in _ (by omega)])) rfl)
        · exact Free.ob_plain _ rfl rfl fun vals wq hC hd => (by exact Free.d_call Tryd.func45 (by kernel_rfl) (by kernel_rfl) rfl rfl (Free.arg1 (Eq.trans (b := vals 4) (by kernel_rfl) (hd 4 (by kernel_rfl)))) ((one_any (b.toNat / 16) (by omega) wq).mono fun e w2 h => ⟨_, h.1, rfl, (by have h2 := h.2; subst h2; exact Below.refl _ _)⟩))
        · exact Free.ob_plain _ rfl rfl fun vals wq hC hd => (by exact Free.d_move rfl (by kernel_rfl) rfl)
        · exact Free.ob_plain _ rfl rfl fun vals wq hC hd => (by exact Free.d_move rfl (by kernel_rfl) rfl)
        · exact Free.ob_plain _ rfl rfl fun vals wq hC hd => (by exact Free.d_index rfl (Eq.trans (b := vals 6) (by kernel_rfl) (hd 6 (by kernel_rfl))) (Eq.trans (b := vals 7) (by kernel_rfl) (hd 7 (by kernel_rfl))) (run_idx_str l i b hbi Tryd.underlying9) rfl)
        · exact Free.ob_plain _ rfl rfl fun vals wq hC hd => (by exact Free.d_bin rfl (Eq.trans (b := vals 8) (by kernel_rfl) (hd 8 (by kernel_rfl))) (show _ = (.int .u8 16 : Value) from rfl) (by go_simp) (by first | (go_simp; done) | (go_simp; rw [IntWalk.u8_in _ (by omega)])) rfl)
        · exact Free.ob_plain _ rfl rfl fun vals wq hC hd => (by exact Free.d_call Tryd.func45 (by kernel_rfl) (by kernel_rfl) rfl rfl (Free.arg1 (Eq.trans (b := vals 9) (by kernel_rfl) (hd 9 (by kernel_rfl)))) ((one_any (b.toNat % 16) (by omega) wq).mono fun e w2 h => ⟨_, h.1, rfl, (by have h2 := h.2; subst h2; exact Below.refl _ _)⟩))
        · exact Free.ob_plain _ rfl rfl fun vals wq hC hd => (by exact Free.d_build (w' := wq.alloc (.cells ([.int .u8 ((Hex.dg (b.toNat / 16)).toNat : Int), .int .u8 ((Hex.dg (b.toNat % 16)).toNat : Int)] : List Value).toArray 5)) rfl (Free.parts2 (Eq.trans (b := vals 5) (by kernel_rfl) (hd 5 (by kernel_rfl))) (Eq.trans (b := vals 10) (by kernel_rfl) (hd 10 (by kernel_rfl)))) (by go_simp) ((Below.refl _ _).alloc (Nat.le_refl _) _) ⟨_, _, rfl, (rd_new wq [_, _] _ _).more (by unfold World.alloc; simp), Nat.le_refl _, by rw [maxLen_eq]; omega⟩)
      · intro vals wq hC hd
        have e0 : vals 0 = (.slice A6 u c6) := hd 0 (by decide)
        have e1 : vals 1 = (.string (str l)) := hd 1 (by decide)
        have e2 : vals 2 = (.int .i64 (i : Int)) := hd 2 (by decide)
        have e3 : vals 3 = (.int .u8 (b.toNat : Int)) := hd 3 (by decide)
        have e4 : vals 4 = (.int .u8 ((b.toNat : Int) / 16)) := hd 4 (by decide)
        have e5 : vals 5 = (.int .u8 ((Hex.dg (b.toNat / 16)).toNat : Int)) := hd 5 (by decide)
        have e6 : vals 6 = (.string (str l)) := hd 6 (by decide)
        have e7 : vals 7 = (.int .i64 (i : Int)) := hd 7 (by decide)
        have e8 : vals 8 = (.int .u8 (b.toNat : Int)) := hd 8 (by decide)
        have e9 : vals 9 = (.int .u8 ((b.toNat : Int) % 16)) := hd 9 (by decide)
        have e10 : vals 10 = (.int .u8 ((Hex.dg (b.toNat % 16)).toNat : Int)) := hd 10 (by decide)
        obtain ⟨A11, k11, e11, rd11, le11, mx11⟩ := hd 11 (by decide)
        simp only [Free.frameOf, List.range, List.range.loop, List.foldl, Free.dstOf, List.getElem?_toArray, List.getElem?_cons_zero, List.getElem?_cons_succ, Option.bind_some, Act.put, List.setIfInBounds_toArray, List.set_cons_zero, List.set_cons_succ, e0, e1, e2, e3, e4, e5, e6, e7, e8, e9, e10, e11]
        clear hd e0 e1 e2 e3 e4 e5 e6 e7 e8 e9 e10 e11
        have HOK := Lib.hid (own_keep HO.out hC (Nat.le_refl _))
        have HBQ := Lib.hid (HB.out.trans (hC.mono HB.out.size))
        refine wl_app rfl (.tmp 11) (.tmp 22) 22 rfl _ 5 1 1 bytesT _ u _ rfl HOK.out wq.heap.size A11 2 k11 _ rfl rd11 rfl (by simp [Value.oneCell']) (by rw [maxLen_eq]; omega) (by omega) HBQ.out.size ?_
        intro A3 c3 w3 hown3 hg3 hat3 hb3 hd3 hd3'
        have HO3 := Lib.hid hown3
        have HB3 := Lib.hid (HBQ.out.trans hb3)
        have HC3 := Lib.hid (And.intro hd3 hd3')
        clear hown3 hg3 hat3 hb3 hd3 hd3' hbi
        go_wp2
        go_roundw
        case rel =>
          refine ⟨i + 1, u + 2, A3, c3, by omega, by go_num, by have := HU.out; omega, rfl, HC3.out.1, by have := HC3.out.2; rw [maxLen_eq] at this; exact this, ?_, HB3.out⟩
          rw [List.take_add_one, HBI.out, Option.toList_some, Hex.hex_append]
          exact own_snocs HO3.out rfl
        case measure => simp [intOf]; omega
    · obtain rfl : i = n := by omega
      have hrd := Rd.of_own HO.out
      have hx : Hex.hex (l.take i) = Hex.hex l := by rw [List.take_of_length_le (by rw [HN.out]; exact Nat.le_refl _)]
      rw [hx] at hrd
      have HRX := Lib.hid (And.intro hrd (show (Hex.hex l).length = u by rw [Hex.hex_length, HN.out, HU.out]))
      clear hrd hx
      go_wp2_with (first
        | (refine wl_str rfl 22 9 (.tmp 24) rfl 5 Tryd.underlying22 Tryd.underlying5 Tryd.underlying9 A6 u c6 rfl _ (Hex.hex l) HRX.out.1 HRX.out.2 ?_))
      go_ret
      exact ⟨rfl, HB.out⟩
end Go.Proofs.YtcnjpcmadkkhfaaDoor
