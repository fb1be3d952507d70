/- The walk of the law UtfDecodes. -/
import Derived.Test.YtabndfboohgioaaDoorUtfRDec
import Derived.Test.YtabndfboohgioaaDoorUtfLaw
namespace Go.Proofs.YtabndfboohgioaaDoor
set_option linter.unusedVariables false
open Go.RowKit

set_option maxRecDepth 100000 in
set_option maxHeartbeats 4000000 in
theorem decodes_any (A : Option Addr) (n c : Nat) (l : List UInt8) (w : World) (hr : Rd w w.heap.size A (l.map bv)) (hn : l.length = n) (hc : n ≤ c) (hm : c ≤ maxLen) (ht : Tabs w) :
    Calls Tryd.prog 3 #[.slice A n c] w (Yes w) := by
  by_cases hbig : 2000 < n
  · clear hr hn hc hm
    go_enter Tryd.func3, Tryd.ntmps3
    go_wp2_with (go_at_call 10; refine (knows_any w ht).mono ?_; rintro e w1 ⟨rfl, hb⟩)
    go_ret
    exact ⟨rfl, hb⟩
  · have hbig' : n ≤ 2000 := by omega
    have hlen := Utf.dec_length l
    have HN := Lib.hid hn
    have HR := Lib.hid hr
    have HT := Lib.hid ht
    have HM := Lib.hid hm
    have HLN := Lib.hid hlen
    clear hr hn ht hbig hlen hm
    go_enter Tryd.func3, Tryd.ntmps3
    go_wp2_with (first
      | (at_builtin; refine wl_app rfl (.tmp 10) (.tmp 11) 22 rfl w.heap.size 5 1 1 bytesT _ 0 [] rfl (own_empty w 5 1 (Nat.le_refl _)) w.heap.size A n c (l.map bv) rfl (HR.out.alloc (Nat.le_refl _) _) (by simpa using HN.out) (by simp [bv, Value.oneCell']) (by rw [maxLen_eq]; omega) (by omega) (by simp) ?_; intro A1 c1 w1 hown1 hg1 hat1 hb1 hc1 hc2; simp only [Nat.zero_add, List.nil_append] at hown1 hc1; have HOWN := Lib.hid hown1; have HB1 := Lib.hid (((Below.refl w.heap.size w).alloc (Nat.le_refl _) _).trans hb1); have HC2 := Lib.hid hc2; clear hg1 hat1 hb1 hown1 hc2)
      | fail)
    with_reducible refine (decode_any A1 n c1 l w1 (Rd.of_own HOWN.out) HN.out hc1 HC2.out (by have := HN.out; omega)).mono ?_
    rintro e wd ⟨v, rfl, hownd, hbd⟩
    obtain ⟨D, hD⟩ : ∃ D, Utf.dec l = D := ⟨_, rfl⟩
    obtain ⟨d, hd⟩ : ∃ d, D.length = d := ⟨_, rfl⟩
    rw [hD, hd] at hownd
    have hdn : d ≤ 2000 := by have h1 := HLN.out; have h2 := HN.out; rw [hD, hd] at h1; omega
    obtain ⟨AD, cD, rfl, hcD, _⟩ := own_form hownd
    have HRD := Lib.hid (Rd.of_own hownd)
    have HB2 := Lib.hid (bt HB1.out hbd)
    have HDe := Lib.hid hD; have HDl := Lib.hid hd
    have hz2 := HB2.out.size
    clear hownd hbd hD hd hc1 HOWN hcD
    go_wp2_with fail
    with_reducible refine (rdecode_any A n c l wd ((HR.out.below HB2.out).more hz2) HN.out hc HM.out (by omega)).mono ?_
    rintro e we ⟨v2, rfl, howne, hbe⟩
    rw [HDe.out, HDl.out] at howne
    obtain ⟨AE, cE, rfl, hcE, _⟩ := own_form howne
    have HRE := Lib.hid (Rd.of_own howne)
    have HRD2 := Lib.hid ((HRD.out.below hbe).more hbe.size)
    have HB3 := Lib.hid (bt HB2.out hbe)
    have HTE := Lib.hid (HT.out.below HB3.out)
    clear howne hbe hcE
    go_wp2_with fail
    go_loopw [5] (fun i wr => ∃ k : Nat, i = .int .i64 k ∧ k ≤ d ∧ Below we.heap.size we wr) (fun i _ => d - (intOf i).toNat)
    case atStart => exact ⟨0, rfl, Nat.zero_le _, Below.refl _ _⟩
    case round =>
      obtain ⟨k, rfl, hk, hb⟩ := hrel
      have HB := Lib.hid hb
      have HTR := Lib.hid (HTE.out.below hb)
      have hra := HRD2.out.below hb
      have hrb := HRE.out.below hb
      clear hb
      by_cases hkL : k < d
      · have hkD : k < D.length := by rw [HDl.out]; exact hkL
        have hne : D.map iv ≠ [] := by intro e; simp at e; subst e; simp at hkD
        obtain ⟨ba, oa, rfl, _, hca⟩ := hra hne
        obtain ⟨bb, ob, rfl, _, hcb⟩ := hrb hne
        have ca : wr.cell? ⟨ba, oa + k, none⟩ = some (.int .i64 D[k]) := hca k (iv D[k]) (by simp [hkD])
        have cb : wr.cell? ⟨bb, ob + k, none⟩ = some (.int .i64 D[k]) := hcb k (iv D[k]) (by simp [hkD])
        obtain ⟨x, hx⟩ : ∃ x, D[k] = x := ⟨_, rfl⟩
        rw [hx] at ca cb
        clear hca hcb hx hne
        go_wp2_with fail
        go_region
        go_wp2
        go_roundw
        case rel => exact ⟨k + 1, by go_num, by omega, HB.out.drew⟩
        case measure => simp [intOf]; omega
      · obtain rfl : k = d := by omega
        clear hra hrb
        go_wp2_with (go_at_call 10; refine (knows_any wr HTR.out).mono ?_; rintro e w12 ⟨rfl, hb12⟩)
        go_ret
        exact ⟨rfl, bt (bt HB3.out HB.out) hb12⟩
end Go.Proofs.YtabndfboohgioaaDoor
