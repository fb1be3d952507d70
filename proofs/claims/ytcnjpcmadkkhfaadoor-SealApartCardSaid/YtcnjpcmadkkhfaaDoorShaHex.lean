/- digit, value, Hex and FromHex, of the package that sums. No statement of the seat is proved here. -/
import Derived.Test.YtcnjpcmadkkhfaaDoorHexPlain
import Derived.Test.YtcnjpcmadkkhfaaDoorShaEnd
import Derived.Test.YtcnjpcmadkkhfaaDoorFree
import Derived.Test.YtcnjpcmadkkhfaaDoorBits
namespace Go.Proofs.YtcnjpcmadkkhfaaDoor
set_option linter.unusedVariables false
open Go.RowKit

theorem one_bv' (l : List UInt8) : ∀ u ∈ l.map bv, u.oneCell' = true := fun u hu => by
  obtain ⟨x, _, rfl⟩ := List.mem_map.1 hu
  rfl
theorem str_get {l : List UInt8} {i : Nat} {b : UInt8} (h : l[i]? = some b) : (str l)[i]? = some b := by
  obtain ⟨hi, hb⟩ := List.getElem?_eq_some_iff.1 h
  have hs : i < (str l).size := by simpa [str, ByteArray.size] using hi
  rw [getElem?_pos (str l) i hs]
  congr 1
theorem run_idx_str {P : Program} {w : World} {T : TypeId} (l : List UInt8) (i : Nat) (b : UInt8) (h : l[i]? = some b) (hu : P.underlying T = some .string) : (Instr.index T (.string (str l)) (.int .i64 (i : Int))).run P w = .ok (.int .u8 (b.toNat : Int)) w := by
  obtain ⟨hi, hb⟩ := List.getElem?_eq_some_iff.1 h
  have h2 : (str l)[i]? = some b := by
    have hs : i < (str l).size := by simpa [str, ByteArray.size] using hi
    rw [getElem?_pos (str l) i hs]
    congr 1
  have hs : i < (str l).size := by simpa [str, ByteArray.size] using hi
  have h3 : (str l)[i] = b := by
    rw [getElem?_pos (str l) i hs] at h2
    injection h2
  rw [run_index_string w T (str l) .i64 (i : Int) hu]
  simp [hs, h3]
theorem str_size (l : List UInt8) : (str l).size = l.length := by simp [str, ByteArray.size]

theorem and15 (n : Nat) (h : n < 256) : bits .and .u8 (n : Int) 15 = (n : Int) % 16 := Bit.mask8 4 _ _ _ (by omega) (by omega) (by omega) (by decide) (by decide)
theorem digit_any (v : Nat) (h : v < 16) (w : World) : Calls Tryd.prog 44 #[.int .u8 (v : Int)] w fun e w' => e = .returned (.int .u8 ((Hex.dg v).toNat : Int)) ∧ w = w' := by
  by_cases h10 : v < 10
  · have hv : ((Hex.dg v).toNat : Int) = 48 + (v : Int) := by
      unfold Hex.dg
      rw [if_pos h10, UInt8.toNat_ofNat']; omega
    rw [hv]
    go_enter Tryd.func44, Tryd.ntmps44
    go_wp2
    go_ret
    exact ⟨rfl, rfl⟩
  · have hv : ((Hex.dg v).toNat : Int) = 97 + (v : Int) - 10 := by
      unfold Hex.dg
      rw [if_neg h10, UInt8.toNat_ofNat']; omega
    rw [hv]
    go_enter Tryd.func44, Tryd.ntmps44
    go_wp2
    go_ret
    exact ⟨rfl, rfl⟩
def ValPost (c : UInt8) (w : World) (e : Ending) (w' : World) : Prop := (∃ v : Nat, v = (Hex.val c).getD 0 ∧ e = .returned (.tuple #[.int .u8 (v : Int), .bool (Hex.val c).isSome])) ∧ w = w'
theorem val_mk {c : UInt8} {w : World} {o : Option Nat} (h : Hex.val c = o) {x : Int} {b : Bool} (hx : x = ((o.getD 0 : Nat) : Int)) (hb : b = o.isSome) : ValPost c w (.returned (.tuple #[.int .u8 x, .bool b])) w :=
  ⟨⟨_, rfl, by rw [h, hx, hb]⟩, rfl⟩
theorem value_any (c : UInt8) (w : World) : Calls Tryd.prog 43 #[.int .u8 (c.toNat : Int)] w (ValPost c w) := by
  have hlt := c.toNat_lt
  obtain ⟨n, hn⟩ : ∃ n, c.toNat = n := ⟨_, rfl⟩
  by_cases h1 : 48 ≤ c.toNat
  · by_cases h2 : c.toNat ≤ 57
    · have hv : Hex.val c = some (c.toNat - 48) := by unfold Hex.val; rw [if_pos ⟨h1, h2⟩]
      have HV := Lib.hid hv
      rw [hn] at *
      clear hv
      go_enter Tryd.func43, Tryd.ntmps43
      go_wp2
      go_ret2
      exact val_mk HV.out (by simp only [Option.getD_some]; omega) rfl
    · by_cases h3 : 97 ≤ c.toNat ∧ c.toNat ≤ 102
      · have hv : Hex.val c = some (c.toNat - 87) := by unfold Hex.val; rw [if_neg (by omega), if_pos h3]
        have HV := Lib.hid hv
        obtain ⟨h4, h5⟩ := h3
        rw [hn] at *
        clear hv
        go_enter Tryd.func43, Tryd.ntmps43
        go_wp2
        go_ret2
        exact val_mk HV.out (by simp only [Option.getD_some]; omega) rfl
      · have hv : Hex.val c = none := by unfold Hex.val; rw [if_neg (by omega), if_neg h3]
        have HV := Lib.hid hv
        by_cases h4 : 97 ≤ c.toNat
        · have h5 : ¬ c.toNat ≤ 102 := fun h => h3 ⟨h4, h⟩
          rw [hn] at *
          clear hv h3
          go_enter Tryd.func43, Tryd.ntmps43
          go_wp2
          go_ret2
          exact val_mk HV.out rfl rfl
        · rw [hn] at *
          clear hv h3
          go_enter Tryd.func43, Tryd.ntmps43
          go_wp2
          go_ret2
          exact val_mk HV.out rfl rfl
  · have hv : Hex.val c = none := by unfold Hex.val; rw [if_neg (by omega), if_neg (by omega)]
    have HV := Lib.hid hv
    rw [hn] at *
    clear hv
    go_enter Tryd.func43, Tryd.ntmps43
    go_wp2
    go_ret2
    exact val_mk HV.out rfl rfl

def HexPost (l : List UInt8) (w : World) (e : Ending) (w' : World) : Prop := e = .returned (sv (Hex.hex l)) ∧ Below w.heap.size w w'
set_option maxRecDepth 100000 in
set_option maxHeartbeats 4000000 in
theorem hex_any (l : List UInt8) (w : World) (hb : l.length ≤ 1099511627776) : Calls Tryd.prog 21 #[sv l] w (HexPost l w) := by
  have hsz := str_size l
  obtain ⟨n, hn⟩ : ∃ n, l.length = n := ⟨_, rfl⟩
  rw [hn] at hsz hb
  have HN := Lib.hid hn
  clear hn
  go_enter Tryd.func21, Tryd.ntmps21
  go_wp2_with (first
    | (at_make; refine wl_make rfl _ _ 22 rfl w.heap.size 5 1 1 bytesT .i64 .i64 _ (2 * n) rfl rfl (by push_cast; rfl) (by omega) (by rw [maxLen_eq]; omega) (Nat.le_refl _) ?_; intro w1 hown1 hb1; have HO1 := Lib.hid hown1; have HB1 := Lib.hid hb1; clear hown1 hb1))
  go_loopw [3, 11] (fun v q wr => ∃ (i u : Nat) (A6 : Option Addr) (c6 : Nat), i ≤ n ∧ q = .int .i64 i ∧ u = 2 * i ∧ v = .slice A6 u c6 ∧ u ≤ c6 ∧ c6 ≤ 9223372036854775807 ∧ wr.ownsRow w.heap.size 5 1 (.slice A6 u c6) u ((Hex.hex (l.take i)).map bv) ∧ Below w.heap.size w wr) (fun _ q _ => n - (intOf q).toNat)
  case atStart => exact ⟨0, 0, _, 2 * n, by omega, rfl, rfl, rfl, Nat.zero_le _, by omega, by simpa [Hex.hex] using HO1.out, HB1.out⟩
  clear HO1 HB1
  case round =>
    obtain ⟨i, u, A6, c6, hi, rfl, hu, rfl, hc6, hc6', hown, hbel⟩ := hrel
    have HO := Lib.hid hown
    have HB := Lib.hid hbel
    have HU := Lib.hid hu
    have hu2 : u ≤ 2 * n := by omega
    clear hown hbel hu
    by_cases hlt : i < n
    · obtain ⟨b, hbi⟩ : ∃ b, l[i]? = some b := ⟨_, List.getElem?_eq_getElem (by have := HN.out; omega)⟩
      have HBI := Lib.hid hbi
      have hb0 := b.toNat_lt
      clear hbi
      go_wp2_with fail
      have hbi := HBI.out
      have hand : bits .and .u8 (b.toNat : Int) 15 = (b.toNat : Int) % 16 := and15 b.toNat hb0
      refine Free.wp_free_l 12 (fun W => Below wr.heap.size wr W) [Free.kc (.slice A6 u c6), Free.kc (.string (str l)), Free.kc (.int .i64 (i : Int)), Free.kc (.int .u8 (b.toNat : Int)), Free.kc (.int .u8 ((b.toNat : Int) / 16)), Free.kc (.int .u8 ((Hex.dg (b.toNat / 16)).toNat : Int)), Free.kc (.string (str l)), Free.kc (.int .i64 (i : Int)), Free.kc (.int .u8 (b.toNat : Int)), Free.kc (.int .u8 ((b.toNat : Int) % 16)), Free.kc (.int .u8 ((Hex.dg (b.toNat % 16)).toNat : Int)), Free.kr (2) ([.int .u8 ((Hex.dg (b.toNat / 16)).toNat : Int), .int .u8 ((Hex.dg (b.toNat % 16)).toNat : Int)])] (by kernel_rfl) (by kernel_rfl) (by decide) (Below.refl _ _).drew (fun w w' h g => bt h g) ?_ ?_
      · refine Free.forall_succ (Free.forall_succ (Free.forall_succ (Free.forall_succ (Free.forall_succ (Free.forall_succ (Free.forall_succ (Free.forall_succ (Free.forall_succ (Free.forall_succ (Free.forall_succ (Free.forall_succ (Free.forall_zero) ?_) ?_) ?_) ?_) ?_) ?_) ?_) ?_) ?_) ?_) ?_) ?_
        · exact Free.ob_plain _ rfl rfl fun vals wq hC hd => (by exact Free.d_move rfl (by kernel_rfl) rfl)
        · exact Free.ob_plain _ rfl rfl fun vals wq hC hd => (by exact Free.d_move rfl (by kernel_rfl) rfl)
        · exact Free.ob_plain _ rfl rfl fun vals wq hC hd => (by exact Free.d_move rfl (by kernel_rfl) rfl)
        · exact Free.ob_plain _ rfl rfl fun vals wq hC hd => (by exact Free.d_index rfl (Eq.trans (b := vals 1) (by kernel_rfl) (hd 1 (by kernel_rfl))) (Eq.trans (b := vals 2) (by kernel_rfl) (hd 2 (by kernel_rfl))) (run_idx_str l i b hbi Tryd.underlying9) rfl)
        · exact Free.ob_plain _ rfl rfl fun vals wq hC hd => (by exact Free.d_bin rfl (Eq.trans (b := vals 3) (by kernel_rfl) (hd 3 (by kernel_rfl))) (show _ = (.int .u64 4 : Value) from rfl) (by go_simp) (by go_simp) rfl)
        · exact Free.ob_plain _ rfl rfl fun vals wq hC hd => (by exact Free.d_call Tryd.func44 (by kernel_rfl) (by kernel_rfl) rfl rfl (Free.arg1 (Eq.trans (b := vals 4) (by kernel_rfl) (hd 4 (by kernel_rfl)))) ((digit_any (b.toNat / 16) (by omega) wq).mono fun e w2 h => ⟨_, h.1, rfl, (by have h2 := h.2; subst h2; exact Below.refl _ _)⟩))
        · exact Free.ob_plain _ rfl rfl fun vals wq hC hd => (by exact Free.d_move rfl (by kernel_rfl) rfl)
        · exact Free.ob_plain _ rfl rfl fun vals wq hC hd => (by exact Free.d_move rfl (by kernel_rfl) rfl)
        · exact Free.ob_plain _ rfl rfl fun vals wq hC hd => (by exact Free.d_index rfl (Eq.trans (b := vals 6) (by kernel_rfl) (hd 6 (by kernel_rfl))) (Eq.trans (b := vals 7) (by kernel_rfl) (hd 7 (by kernel_rfl))) (run_idx_str l i b hbi Tryd.underlying9) rfl)
        · exact Free.ob_plain _ rfl rfl fun vals wq hC hd => (by exact Free.d_bin rfl (Eq.trans (b := vals 8) (by kernel_rfl) (hd 8 (by kernel_rfl))) (show _ = (.int .u8 15 : Value) from rfl) (by go_simp) (by go_simp) rfl)
        · exact Free.ob_plain _ rfl rfl fun vals wq hC hd => (by exact Free.d_call Tryd.func44 (by kernel_rfl) (by kernel_rfl) rfl rfl (Free.arg1 (Eq.trans (b := vals 9) (by kernel_rfl) (hd 9 (by kernel_rfl)))) ((digit_any (b.toNat % 16) (by omega) wq).mono fun e w2 h => ⟨_, h.1, rfl, (by have h2 := h.2; subst h2; exact Below.refl _ _)⟩))
        · exact Free.ob_plain _ rfl rfl fun vals wq hC hd => (by exact Free.d_build (w' := wq.alloc (.cells ([.int .u8 ((Hex.dg (b.toNat / 16)).toNat : Int), .int .u8 ((Hex.dg (b.toNat % 16)).toNat : Int)] : List Value).toArray 5)) rfl (Free.parts2 (Eq.trans (b := vals 5) (by kernel_rfl) (hd 5 (by kernel_rfl))) (Eq.trans (b := vals 10) (by kernel_rfl) (hd 10 (by kernel_rfl)))) (by go_simp) ((Below.refl _ _).alloc (Nat.le_refl _) _) ⟨_, _, rfl, (rd_new wq [_, _] _ _).more (by unfold World.alloc; simp), Nat.le_refl _, by rw [maxLen_eq]; omega⟩)
      · intro vals wq hC hd
        have e0 : vals 0 = (.slice A6 u c6) := hd 0 (by decide)
        have e1 : vals 1 = (.string (str l)) := hd 1 (by decide)
        have e2 : vals 2 = (.int .i64 (i : Int)) := hd 2 (by decide)
        have e3 : vals 3 = (.int .u8 (b.toNat : Int)) := hd 3 (by decide)
        have e4 : vals 4 = (.int .u8 ((b.toNat : Int) / 16)) := hd 4 (by decide)
        have e5 : vals 5 = (.int .u8 ((Hex.dg (b.toNat / 16)).toNat : Int)) := hd 5 (by decide)
        have e6 : vals 6 = (.string (str l)) := hd 6 (by decide)
        have e7 : vals 7 = (.int .i64 (i : Int)) := hd 7 (by decide)
        have e8 : vals 8 = (.int .u8 (b.toNat : Int)) := hd 8 (by decide)
        have e9 : vals 9 = (.int .u8 ((b.toNat : Int) % 16)) := hd 9 (by decide)
        have e10 : vals 10 = (.int .u8 ((Hex.dg (b.toNat % 16)).toNat : Int)) := hd 10 (by decide)
        obtain ⟨A11, k11, e11, rd11, le11, mx11⟩ := hd 11 (by decide)
        simp only [Free.frameOf, List.range, List.range.loop, List.foldl, Free.dstOf, List.getElem?_toArray, List.getElem?_cons_zero, List.getElem?_cons_succ, Option.bind_some, Act.put, List.setIfInBounds_toArray, List.set_cons_zero, List.set_cons_succ, e0, e1, e2, e3, e4, e5, e6, e7, e8, e9, e10, e11]
        clear hd e0 e1 e2 e3 e4 e5 e6 e7 e8 e9 e10 e11
        have HOK := Lib.hid (own_keep HO.out hC (Nat.le_refl _))
        have HBQ := Lib.hid (HB.out.trans (hC.mono HB.out.size))
        refine wl_app rfl (.tmp 14) (.tmp 25) 22 rfl _ 5 1 1 bytesT _ u _ rfl HOK.out wq.heap.size A11 2 k11 _ rfl rd11 rfl (by simp [Value.oneCell']) (by rw [maxLen_eq]; omega) (by omega) HBQ.out.size ?_
        intro A3 c3 w3 hown3 hg3 hat3 hb3 hd3 hd3'
        have HO3 := Lib.hid hown3
        have HB3 := Lib.hid (HBQ.out.trans hb3)
        have HC3 := Lib.hid (And.intro hd3 hd3')
        clear hown3 hg3 hat3 hb3 hd3 hd3' hbi
        go_wp2
        go_roundw
        case rel =>
          refine ⟨i + 1, u + 2, A3, c3, by omega, by go_num, by have := HU.out; omega, rfl, HC3.out.1, by have := HC3.out.2; rw [maxLen_eq] at this; exact this, ?_, HB3.out⟩
          rw [List.take_add_one, HBI.out, Option.toList_some, Hex.hex_append]
          exact own_snocs HO3.out rfl
        case measure => simp [intOf]; omega
    · obtain rfl : i = n := by omega
      have hrd := Rd.of_own HO.out
      have hx : Hex.hex (l.take i) = Hex.hex l := by rw [List.take_of_length_le (by rw [HN.out]; exact Nat.le_refl _)]
      rw [hx] at hrd
      have HRX := Lib.hid (And.intro hrd (show (Hex.hex l).length = u by rw [Hex.hex_length, HN.out, HU.out]))
      clear hrd hx
      go_wp2_with (first
        | (refine wl_str rfl 22 9 (.tmp 28) rfl 5 Tryd.underlying22 Tryd.underlying5 Tryd.underlying9 A6 u c6 rfl _ (Hex.hex l) HRX.out.1 HRX.out.2 ?_))
      go_ret
      exact ⟨rfl, HB.out⟩
end Go.Proofs.YtcnjpcmadkkhfaaDoor
