/- padded, of the reference that sums. No statement of the seat is proved here. -/
import Derived.Test.YtoiilhbjlfdfpaaDoorShaSum
namespace Go.Proofs.YtoiilhbjlfdfpaaDoor
set_option linter.unusedVariables false
open Go.RowKit

theorem zeros_lt2 (n j : Nat) (hj : j ≤ Sha.zeros n) (h2 : ¬ ((n + 1 + j : Nat) : Int) % 64 = 56) : j + 1 ≤ Sha.zeros n := by
  unfold Sha.zeros at *; omega
theorem zeros_eq2 (n j : Nat) (hj : j ≤ Sha.zeros n) (h2 : ((n + 1 + j : Nat) : Int) % 64 = 56) : j = Sha.zeros n := by
  unfold Sha.zeros at *; omega
theorem lenBytes_drop (N k : Nat) (h : k < 8) : (Sha.lenBytes N).drop (8 - (k + 1)) = UInt8.ofNat (N * 8 / 2 ^ (8 * k) % 256) :: (Sha.lenBytes N).drop (8 - k) := by
  have hl : (Sha.lenBytes N).length = 8 := rfl
  rw [List.drop_eq_getElem_cons (by rw [hl]; omega)]
  congr 1
  · simp only [Sha.lenBytes, List.getElem_map, List.getElem_range]
    rw [show 56 - 8 * (8 - (k + 1)) = 8 * k by omega]
  · rw [show 8 - (k + 1) + 1 = 8 - k by omega]
theorem div_step (N k : Nat) : N / 2 ^ (8 * k) / 256 = N / 2 ^ (8 * (k + 1)) := by
  rw [Nat.div_div_eq_div_mul, show (256 : Nat) = 2 ^ 8 from rfl, ← Nat.pow_add]
  rfl
theorem one_bv (l : List UInt8) : ∀ u ∈ l.map bv, u.oneCell' = true := fun u hu => by
  obtain ⟨x, _, rfl⟩ := List.mem_map.1 hu
  rfl
def PadPost (l : List UInt8) (w : World) (e : Ending) (w' : World) : Prop :=
  ∃ A c, e = .returned (.slice A (Sha.tail l l.length).length c) ∧ Rd w' w'.heap.size A ((Sha.tail l l.length).map bv) ∧ (Sha.tail l l.length).length ≤ c ∧ c ≤ maxLen ∧ Below w.heap.size w w'

set_option maxRecDepth 100000 in
set_option maxHeartbeats 4000000 in
theorem padded_any (A : Option Addr) (n c : Nat) (l : List UInt8) (w : World) (hA : Rd w w.heap.size A (l.map bv)) (hn : l.length = n) (hc : n ≤ c) (hm : c ≤ maxLen) (hb : n ≤ 1099511627776) :
    Calls Tryd.prog 62 #[.slice A n c] w (PadPost l w) := by
  rw [maxLen_eq] at hm
  have HA := Lib.hid (And.intro hA hn)
  clear hA hn
  go_enter Tryd.func62, Tryd.ntmps62
  go_wp2_with (first
    | (at_builtin; refine wl_app rfl (.tmp 7) (.tmp 8) 50 rfl w.heap.size 5 1 1 bytesT _ 0 [] rfl (own_empty w 5 1 (Nat.le_refl _)) w.heap.size A n c (l.map bv) rfl (HA.out.1.alloc (Nat.le_refl _) _) (by simpa using HA.out.2) (by simp [bv, Value.oneCell']) (by rw [maxLen_eq]; omega) (by omega) (by unfold World.alloc; simp) ?_; intro A2 c2 w2 hown2 hg2 hat2 hb2 hc2 hc2'; simp only [Nat.zero_add, List.nil_append] at hown2 hc2; have HO2 := Lib.hid hown2; have HB2 := Lib.hid (((Below.refl w.heap.size w).alloc (Nat.le_refl _) _).trans hb2); clear hown2 hg2 hat2 hb2 hc2 hc2')
    | (at_builtin; refine wl_app rfl (.tmp 9) (.tmp 10) 50 rfl w.heap.size 5 1 1 bytesT _ n _ rfl (HO2.out.alloc _) (w2.heap.size + 1) (some ⟨w2.heap.size, 0, none⟩) 1 1 ([128].map bv) rfl (rd_new w2 ([128].map bv) 5 (0, 0)) rfl (by simp [bv, Value.oneCell']) (by rw [maxLen_eq]; omega) (by omega) (Nat.le_trans HB2.out.size (by unfold World.alloc; simp)) ?_; intro A3 c3 w3 hown3 hg3 hat3 hb3 hc3 hc3'; rw [← List.map_append] at hown3; have HO3 := Lib.hid hown3; have HB3 := Lib.hid ((HB2.out.alloc HB2.out.size _).trans hb3); have hc3a := hc3; have hc3b := hc3'; rw [maxLen_eq] at hc3b; clear hown3 hg3 hat3 hb3 hc3 hc3'))
  have hz := zeros_le n
  clear HO2 HB2
  go_loopw [3] (fun v wr => ∃ (j t : Nat) (A' : Option Addr) (c' : Nat), t = n + 1 + j ∧ v = .slice A' t c' ∧ t ≤ c' ∧ c' ≤ 9223372036854775807 ∧ j ≤ Sha.zeros n ∧ wr.ownsRow w.heap.size 5 1 (.slice A' t c') t ((l ++ [128] ++ List.replicate j 0).map bv) ∧ Below w.heap.size w wr) (fun v _ => match v with | .slice _ m _ => n + 200 - m | _ => 0)
  case atStart => exact ⟨0, n + 1, A3, c3, rfl, rfl, hc3a, hc3b, Nat.zero_le _, by simpa using HO3.out, HB3.out⟩
  clear hc3a hc3b HO3 HB3
  case round =>
    obtain ⟨j, t, A', c', ht, rfl, hc', hc'', hj, hown, hbel⟩ := hrel
    have HO := Lib.hid hown
    have HB := Lib.hid hbel
    have htm : ((t : Nat) : Int).tmod 64 = (t : Int) % 64 := Int.tmod_eq_emod_of_nonneg (by omega)
    have ht2 : t ≤ n + 128 := by omega
    have ht3 : n + 1 ≤ t := by omega
    by_cases h56 : (t : Int) % 64 = 56
    · have hje : j = Sha.zeros n := zeros_eq2 n j hj (by rw [← ht]; exact h56)
      have HT := Lib.hid ht
      have HT0 := Lib.hid (show wr.ownsRow w.heap.size 5 1 (.slice A' t c') t ((l ++ [128] ++ List.replicate (Sha.zeros n) 0).map bv) by rw [← hje]; exact hown)
      have hnb2 : (n : Int) * 8 ≤ 8796093022208 := by omega
      clear hown hbel hje ht hj HO
      go_wp2
      go_loopw [4, 5, 6] (fun q v i wz => ∃ (k mm : Nat) (A2 : Option Addr) (c2 : Nat), k ≤ 8 ∧ i = .int .i64 k ∧ mm = n * 8 / 2 ^ (8 * k) ∧ q = .int .u64 mm ∧ v = .slice A2 k c2 ∧ k ≤ c2 ∧ c2 ≤ 9223372036854775807 ∧ Rd wz wz.heap.size A2 (((Sha.lenBytes n).drop (8 - k)).map bv) ∧ Below wr.heap.size wr wz) (fun _ _ i _ => 8 - (intOf i).toNat)
      case atStart => exact ⟨0, n * 8, none, 0, by omega, rfl, by simp, by go_num, rfl, Nat.le_refl _, by omega, Rd.nil, Below.refl _ _⟩
      case round =>
        obtain ⟨k, mm, A2, c2, hk8, rfl, hmm, rfl, rfl, hc2, hc2', hrd, hbel⟩ := hrel
        have HRD := Lib.hid hrd
        have HB2 := Lib.hid hbel
        have HM := Lib.hid hmm
        have hmb : mm ≤ 8796093022208 := by
          rw [hmm]
          exact Nat.le_trans (Nat.div_le_self _ _) (by omega)
        clear hrd hbel hmm
        by_cases hk : k < 8
        · have hlb := lenBytes_drop n k hk
          rw [← HM.out] at hlb
          have HLB := Lib.hid hlb
          have hll : ((Sha.lenBytes n).drop (8 - k)).length = k := by
            rw [List.length_drop]
            show 8 - (8 - k) = k
            omega
          have HLL := Lib.hid hll
          have tm1 : (mm : Int).tmod 256 = (mm : Int) % 256 := Int.tmod_eq_emod_of_nonneg (by omega)
          have td1 : (mm : Int).tdiv 256 = (mm : Int) / 256 := Int.tdiv_eq_ediv_of_nonneg (by omega)
          clear hlb hll
          go_wp2_with (first
            | (at_builtin; refine wl_app rfl (.tmp 30) (.tmp 31) 50 rfl _ 5 1 1 bytesT _ 1 [_] rfl (own_new _ [_] 5 1 1 rfl (by decide) (Nat.le_refl _)) _ A2 k c2 (((Sha.lenBytes n).drop (8 - k)).map bv) rfl (HRD.out.alloc (Nat.le_refl _) _) (by simpa using HLL.out) (one_bv _) (by rw [maxLen_eq]; omega) (by omega) (by unfold World.alloc; simp) ?_; intro A3 c3 w3 hown3 hg3 hat3 hb3 hd3 hd3'; have HR3 := Lib.hid (Rd.of_own hown3); have HB3 := Lib.hid ((HB2.out.alloc HB2.out.size _).trans (hb3.mono HB2.out.size)); have HC3 := Lib.hid (And.intro hd3 hd3'); clear hown3 hg3 hat3 hb3 hd3 hd3'))
          go_roundw
          case rel =>
            refine ⟨k + 1, mm / 256, A3, c3, by omega, by go_num, by rw [HM.out]; exact div_step _ _, by go_num, by rw [Nat.add_comm], by have := HC3.out.1; omega, by have := HC3.out.2; rw [maxLen_eq] at this; exact this, ?_, HB3.out⟩
            rw [HLB.out, List.map_cons, bv_ofNat _ (Nat.mod_lt _ (by decide))]
            exact HR3.out
          case measure => simp [intOf]; omega
        · obtain rfl : k = 8 := by omega
          have hlen8 : ((Sha.lenBytes n).drop (8 - 8)) = Sha.lenBytes n := rfl
          have hrd8 := HRD.out
          rw [hlen8] at hrd8
          have HR8 := Lib.hid hrd8
          have HOK := Lib.hid (own_keep HT0.out HB2.out (Nat.le_refl _))
          have HBB := Lib.hid (HB.out.trans (HB2.out.mono HB.out.size))
          clear hrd8 hlen8
          go_wp2_with (first
            | (at_builtin; refine wl_app rfl (.tmp 35) (.tmp 36) 50 rfl w.heap.size 5 1 1 bytesT _ t _ rfl HOK.out _ A2 8 c2 ((Sha.lenBytes n).map bv) rfl HR8.out rfl (by simp [bv, Value.oneCell']) (by rw [maxLen_eq]; omega) (by omega) HBB.out.size ?_; intro A3 c3 w3 hown3 hg3 hat3 hb3 hd3 hd3'; rw [← List.map_append] at hown3; have HR3 := Lib.hid (And.intro (Rd.of_own hown3) hown3.1); have HB3 := Lib.hid (HBB.out.trans hb3); have HC3 := Lib.hid (And.intro hd3 hd3'); clear hown3 hg3 hat3 hb3 hd3 hd3'))
          go_ret
          have hT : l ++ [128] ++ List.replicate (Sha.zeros n) 0 ++ Sha.lenBytes n = Sha.tail l l.length := by
            unfold Sha.tail; rw [HA.out.2]
          have hr := HR3.out
          rw [hT] at hr
          have hlen : (Sha.tail l l.length).length = t + 8 := by have := hr.2; simpa using this
          exact ⟨A3, c3, by rw [hlen]; rfl, hr.1, by rw [hlen]; exact HC3.out.1, HC3.out.2, HB3.out⟩
    · have hj2 := zeros_lt2 n j hj (by rw [← ht]; exact h56)
      have HT := Lib.hid ht
      have HJ2 := Lib.hid hj2
      clear hown hbel hj ht hj2
      go_wp2_with (first
        | (at_builtin; refine wl_app rfl (.tmp 16) (.tmp 17) 50 rfl w.heap.size 5 1 1 bytesT _ t _ rfl (HO.out.alloc _) (wr.heap.size + 1) (some ⟨wr.heap.size, 0, none⟩) 1 1 ([0].map bv) rfl (rd_new wr ([0].map bv) 5 (0, 0)) rfl (by simp [bv, Value.oneCell']) (by rw [maxLen_eq]; omega) (by omega) (Nat.le_trans HB.out.size (by unfold World.alloc; simp)) ?_; intro A3 c3 w3 hown3 hg3 hat3 hb3 hc3 hc3'; rw [← List.map_append] at hown3; have HO3 := Lib.hid hown3; have HB3 := Lib.hid ((HB.out.alloc HB.out.size _).trans hb3); have HC3 := Lib.hid (And.intro hc3 hc3'); clear hown3 hg3 hat3 hb3 hc3 hc3'))
      go_roundw
      case rel => exact ⟨j + 1, t + 1, A3, c3, by have := HT.out; omega, rfl, HC3.out.1, by have := HC3.out.2; rw [maxLen_eq] at this; exact this, HJ2.out, by have h := HO3.out; rw [List.append_assoc, ← List.replicate_succ'] at h; exact h, HB3.out⟩
      case measure => simp; omega
end Go.Proofs.YtoiilhbjlfdfpaaDoor
