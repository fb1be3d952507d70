/- The walk of the law UtfRows. -/
import Derived.Test.YtabndfboohgioaaDoorUtfOnly
namespace Go.Proofs.YtabndfboohgioaaDoor
set_option linter.unusedVariables false
open Go.RowKit

theorem byte_of (m : Int) (h0 : 0 ≤ m) (h1 : m < 256) : ∃ b : UInt8, bv b = .int .u8 m ∧ (b.toNat : Int) = m :=
  ⟨UInt8.ofNat m.toNat, by unfold bv; rw [Bit.toNat_u8 m h0 h1], Bit.toNat_u8 m h0 h1⟩

set_option maxRecDepth 100000 in
set_option maxHeartbeats 4000000 in
theorem rows_any (A : Option Addr) (n c : Nat) (l : List UInt8) (m : Int) (hm8 : 0 ≤ m ∧ m ≤ 255) (A2 : Option Addr) (n2 c2 : Nat) (l2 : List UInt8) (w : World)
    (hr : Rd w w.heap.size A (l.map bv)) (hn : l.length = n) (hc : n ≤ c) (hm : c ≤ maxLen) (hr2 : Rd w w.heap.size A2 (l2.map bv)) (hn2 : l2.length = n2) (hc2 : n2 ≤ c2) (hm2 : c2 ≤ maxLen) (ht : Tabs w) :
    Calls Tryd.prog 6 #[.slice A n c, .int .u8 m, .slice A2 n2 c2] w (Yes w) := by
  obtain ⟨m0, m1⟩ := hm8
  have knows := knows_any w ht
  by_cases g1 : 1000 < n
  · clear hr hn hc hm hr2 hn2 hc2 hm2 m0 m1 ht
    have HK := Lib.hid knows
    clear knows
    go_enter Tryd.func6, Tryd.ntmps6
    go_wp2_with (go_at_call 10; refine HK.out.mono ?_; rintro e w1 ⟨rfl, hb⟩)
    go_ret
    exact ⟨rfl, hb⟩
  by_cases g2 : 1000 < n2
  · clear hr hn hc hm hr2 hn2 hc2 hm2 m0 m1 ht
    have HK := Lib.hid knows
    clear knows
    go_enter Tryd.func6, Tryd.ntmps6
    go_wp2_with (go_at_call 10; refine HK.out.mono ?_; rintro e w1 ⟨rfl, hb⟩)
    go_ret
    exact ⟨rfl, hb⟩
  by_cases g3 : 128 ≤ m
  · clear hr hn hc hm hr2 hn2 hc2 hm2 ht
    have HK := Lib.hid knows
    clear knows
    go_enter Tryd.func6, Tryd.ntmps6
    go_wp2_with (go_at_call 10; refine HK.out.mono ?_; rintro e w1 ⟨rfl, hb⟩)
    go_ret
    exact ⟨rfl, hb⟩
  obtain ⟨b, hb8, hbn⟩ := byte_of m m0 (by omega)
  have hval := Utf.dec_mark b (by omega) l2 l
  rw [hbn] at hval
  have hd1 := Utf.dec_length l
  have hd2 := Utf.dec_length l2
  have HN := Lib.hid hn; have HN2 := Lib.hid hn2
  have HR := Lib.hid hr; have HR2 := Lib.hid hr2
  have HT := Lib.hid ht; have HB8 := Lib.hid hb8; have HV := Lib.hid hval
  have HD1 := Lib.hid hd1; have HD2 := Lib.hid hd2; have HM := Lib.hid hm; have HM2 := Lib.hid hm2
  clear hn hn2 hr hr2 ht hb8 hval hd1 hd2 hbn knows hm hm2
  have gn : n ≤ 1000 := by omega
  have gn2 : n2 ≤ 1000 := by omega
  have gm : m < 128 := by omega
  clear g1 g2 g3
  go_enter Tryd.func6, Tryd.ntmps6
  go_wp2_with (first
    | (at_builtin; refine wl_app rfl (.tmp 23) (.tmp 24) 22 rfl w.heap.size 5 1 1 bytesT _ 0 [] rfl (own_empty w 5 1 (Nat.le_refl _)) w.heap.size A n c (l.map bv) rfl (HR.out.alloc (Nat.le_refl _) _) (by simpa using HN.out) (by simp [bv, Value.oneCell']) (by rw [maxLen_eq]; omega) (by omega) (by simp) ?_; intro A3 c3 w1 hown1 hg1 hat1 hb1 hc3 hc3'; simp only [Nat.zero_add, List.nil_append] at hown1 hc3; have HO1 := Lib.hid hown1; have HB1 := Lib.hid (((Below.refl w.heap.size w).alloc (Nat.le_refl _) _).trans hb1); have hz1 := HB1.out.size; clear hg1 hat1 hb1 hown1 hc3 hc3')
    | (at_builtin; refine wl_app rfl (.tmp 25) (.tmp 27) 22 rfl w.heap.size 5 1 1 bytesT _ n (l.map bv) rfl (HO1.out.alloc _) (w1.heap.size + 1) (some ⟨w1.heap.size, 0, none⟩) 1 1 [bv b] rfl (by rw [HB8.out]; exact rd_new w1 [.int .u8 m] 5 (0, 0)) rfl (by simp [bv, Value.oneCell']) (by rw [maxLen_eq]; omega) (by omega) (by simp; omega) ?_; intro A4 c4 w2 hown2 hg2 hat2 hb2 hc4 hc4'; have HO2 := Lib.hid hown2; have HB2 := Lib.hid ((HB1.out.alloc hz1 _).trans hb2); have hz2 := HB2.out.size; clear hg2 hat2 hb2 hown2 hc4 hc4')
    | (at_builtin; refine wl_app rfl (.tmp 28) (.tmp 29) 22 rfl w.heap.size 5 1 1 bytesT _ _ (l.map bv ++ [bv b]) rfl HO2.out w.heap.size A2 n2 c2 (l2.map bv) rfl (HR2.out.below HB2.out) (by simpa using HN2.out) (by simp [bv, Value.oneCell']) (by rw [maxLen_eq]; omega) (by omega) hz2 ?_; intro A5 c5 w3 hown3 hg3 hat3 hb3 hc5 hc5'; have HO3 := Lib.hid hown3; have HB3 := Lib.hid (HB2.out.trans hb3); have hz3 := HB3.out.size; have HC5 := Lib.hid hc5'; clear hg3 hat3 hb3 hown3 hc5'))
  have HRD := Lib.hid (by have h := Rd.of_own HO3.out; simpa using h : Rd w3 w3.heap.size A5 ((l ++ b :: l2).map bv))
  clear HO1 HO2 HO3
  go_wp2_with fail
  with_reducible refine (decode_any A5 (n + 1 + n2) c5 (l ++ b :: l2) w3 HRD.out (by have := HN.out; have := HN2.out; simp; omega) (by omega) HC5.out (by have := HN.out; have := HN2.out; simp; omega)).mono ?_
  rintro e w4 ⟨v4, rfl, hown4, hb4⟩
  obtain ⟨D1, hD1⟩ : ∃ D, Utf.dec l = D := ⟨_, rfl⟩
  obtain ⟨D2, hD2⟩ : ∃ D, Utf.dec l2 = D := ⟨_, rfl⟩
  have hv := HV.out
  have hle1 := HD1.out; have hle2 := HD2.out
  rw [hD1, hD2] at hv
  rw [hD1] at hle1
  rw [hD2] at hle2
  rw [hv] at hown4
  obtain ⟨d1, hd1⟩ : ∃ d, D1.length = d := ⟨_, rfl⟩
  obtain ⟨d2, hd2⟩ : ∃ d, D2.length = d := ⟨_, rfl⟩
  have hdl : (D1 ++ m :: D2).length = d1 + 1 + d2 := by simp; omega
  rw [hdl] at hown4
  have hd1n : d1 ≤ 1000 := by have := HN.out; omega
  have hd2n : d2 ≤ 1000 := by have := HN2.out; omega
  obtain ⟨A6, c6, rfl, _, _⟩ := own_form hown4
  have HRA := Lib.hid (Rd.of_own hown4)
  have HB4 := Lib.hid (bt HB3.out hb4)
  have HE := Lib.hid (own_empty w4 3 1 (Nat.le_refl w4.heap.size))
  have HE2 := Lib.hid ((Below.refl w4.heap.size w4).alloc (Nat.le_refl _) (.cells #[] 3))
  have HL1 := Lib.hid hd1; have HL2 := Lib.hid hd2; have HD1e := Lib.hid hD1; have HD2e := Lib.hid hD2; have HDL := Lib.hid hdl
  clear hown4 hb4 HV HD1 HD2 hv hle1 hle2 hd1 hd2 hdl hD1 hD2
  go_wp2_with (first
    | (go_at_call 11; (with_reducible refine (decode_any A n c l _ ((HR.out.below HB4.out).more (by have := HB4.out.size; simp; omega) |>.alloc (Nat.le_refl _) _ |>.more (by simp)) HN.out hc HM.out (by have := HN.out; omega)).mono ?_); rintro e w6 ⟨v6, rfl, hown6, hb6⟩; rw [HD1e.out, HL1.out] at hown6; obtain ⟨A7, c7, rfl, _, _⟩ := own_form hown6; have HO6 := Lib.hid hown6; have HB6 := Lib.hid (HE2.out.trans (hb6.mono (by simp))); have hz6 := HB6.out.size; have HEk := Lib.hid (own_keep HE.out hb6 (Nat.le_refl _)); clear HE; have HE := HEk; clear HEk hown6 hb6)
    | (at_builtin; refine wl_app rfl (.tmp 32) (.tmp 34) 24 rfl w4.heap.size 3 1 8 intsT _ 0 [] rfl HE.out _ A7 d1 c7 (D1.map iv) rfl (Rd.of_own HO6.out) (by rw [List.length_map, Nat.mul_one]; exact HL1.out) (by simp [iv, Value.oneCell']) (by rw [maxLen_eq]; omega) (by omega) hz6 ?_; intro A8 c8 w7 hown7 hg7 hat7 hb7 hc8 hc8'; simp only [Nat.zero_add, List.nil_append] at hown7; have HO7 := Lib.hid hown7; have HB7 := Lib.hid (HB6.out.trans hb7); have hz7 := HB7.out.size; clear hg7 hat7 hb7 hown7 hc8 hc8')
    | (at_builtin; refine wl_app rfl (.tmp 35) (.tmp 38) 24 rfl w4.heap.size 3 1 8 intsT _ d1 (D1.map iv) rfl (HO7.out.alloc _) (w7.heap.size + 1) (some ⟨w7.heap.size, 0, none⟩) 1 1 [iv m] rfl (rd_new w7 [iv m] 3 (0, 0)) rfl (by simp [iv, Value.oneCell']) (by rw [maxLen_eq]; omega) (by omega) (by simp; omega) ?_; intro A9 c9 w8 hown8 hg8 hat8 hb8 hc9 hc9'; have HO8 := Lib.hid hown8; have HB8' := Lib.hid ((HB7.out.alloc hz7 _).trans hb8); have hz8 := HB8'.out.size; clear hg8 hat8 hb8 hown8 hc9 hc9')
    | fail)
  with_reducible refine (decode_any A2 n2 c2 l2 w8 (((HR2.out.below HB4.out).more HB4.out.size |>.below HB8'.out).more hz8) HN2.out hc2 HM2.out (by have := HN2.out; omega)).mono ?_
  rintro e w9 ⟨v9, rfl, hown9, hb9⟩
  rw [HD2e.out, HL2.out] at hown9
  obtain ⟨A10, c10, rfl, _, _⟩ := own_form hown9
  have HO9 := Lib.hid hown9
  have HB9d := Lib.hid hb9
  have HB9 := Lib.hid (HB8'.out.trans (hb9.mono hz8))
  have hz9 := HB9.out.size
  clear hown9 hb9
  go_wp2_with (first
    | (at_builtin; refine wl_app rfl (.tmp 39) (.tmp 41) 24 rfl w4.heap.size 3 1 8 intsT _ _ (D1.map iv ++ [iv m]) rfl (own_keep HO8.out HB9d.out (Nat.le_refl _)) _ A10 d2 c10 (D2.map iv) rfl (Rd.of_own HO9.out) (by rw [List.length_map, Nat.mul_one]; exact HL2.out) (by simp [iv, Value.oneCell']) (by rw [maxLen_eq]; omega) (by omega) hz9 ?_; intro A11 c11 w10 hown10 hg10 hat10 hb10 hc11 hc11'; have HO10 := Lib.hid hown10; have HB10 := Lib.hid (HB9.out.trans hb10); have hz10 := HB10.out.size; clear hg10 hat10 hb10 hown10 hc11 hc11')
    | fail)
  have HRB := Lib.hid (by have h := Rd.of_own HO10.out; rw [show D1.map iv ++ [iv m] ++ D2.map iv = (D1 ++ m :: D2).map iv by simp] at h; exact h)
  have HRA2 := Lib.hid (HRA.out.below HB10.out)
  obtain ⟨D, hD⟩ : ∃ D, D1 ++ m :: D2 = D := ⟨_, rfl⟩
  have hdl := HDL.out
  rw [hD] at hdl
  have HRB2 := Lib.hid (by have h := HRB.out; rw [hD] at h; exact h)
  have HRA3 := Lib.hid (by have h := HRA2.out; rw [hD] at h; exact h)
  obtain ⟨d, hd⟩ : ∃ d, d1 + 1 + d2 = d := ⟨_, rfl⟩
  have HBA := Lib.hid (bt HB4.out HB10.out)
  have HTA := Lib.hid (HT.out.below HBA.out)
  clear HRB HRA2 HRA HO10 HO9 HO8 HO7 HO6 HE hD HDL
  go_wp2_with fail
  go_loopw [9] (fun i wr => ∃ k : Nat, i = .int .i64 k ∧ k ≤ d1 + 1 + d2 ∧ Below w10.heap.size w10 wr) (fun i _ => d1 + 1 + d2 - (intOf i).toNat)
  case atStart => exact ⟨0, rfl, Nat.zero_le _, Below.refl _ _⟩
  case round =>
    obtain ⟨k, rfl, hk, hb⟩ := hrel
    have HB := Lib.hid hb
    have HTR := Lib.hid (HTA.out.below hb)
    have hB : w10.heap.size ≤ wr.heap.size := hb.size
    have hra := HRA3.out.below' hb HB10.out.size
    have hrb := HRB2.out.below hb
    clear hb
    by_cases hkL : k < d1 + 1 + d2
    · have hkD : k < D.length := by omega
      have hne : D.map iv ≠ [] := by intro e; simp at e; subst e; simp at hkD
      obtain ⟨ba, oa, rfl, _, hca⟩ := hra hne
      obtain ⟨bb, ob, rfl, _, hcb⟩ := hrb hne
      have ca : wr.cell? ⟨ba, oa + k, none⟩ = some (.int .i64 D[k]) := hca k (iv D[k]) (by simp [hkD])
      have cb : wr.cell? ⟨bb, ob + k, none⟩ = some (.int .i64 D[k]) := hcb k (iv D[k]) (by simp [hkD])
      obtain ⟨x, hx⟩ : ∃ x, D[k] = x := ⟨_, rfl⟩
      rw [hx] at ca cb
      clear hca hcb hx hne hdl hd
      go_wp2_with fail
      go_region
      go_wp2
      go_roundw
      case rel => exact ⟨k + 1, by go_num, by omega, HB.out.drew⟩
      case measure => simp [intOf]; omega
    · obtain rfl : k = d1 + 1 + d2 := by omega
      clear hra hrb hd hdl
      go_wp2_with (go_at_call 10; refine (knows_any wr HTR.out).mono ?_; rintro e w12 ⟨rfl, hb12⟩)
      go_ret
      exact ⟨rfl, bt (bt HBA.out HB.out) hb12⟩
end Go.Proofs.YtabndfboohgioaaDoor
