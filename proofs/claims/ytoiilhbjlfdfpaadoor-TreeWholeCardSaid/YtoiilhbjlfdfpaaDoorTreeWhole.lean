/- TreeWhole: the walk of the law. -/
import Derived.Test.YtoiilhbjlfdfpaaDoorTree12
import Derived.OpenShut
namespace Go.Proofs.YtoiilhbjlfdfpaaDoor
set_option linter.unusedVariables false
open Go.RowKit

set_option maxRecDepth 100000 in
set_option maxHeartbeats 16000000 in
theorem treewhole_any (A : Option Addr) (n c : Nat) (f : Nat → Piece) (w : World) (hr : RowsAt w A n f) (hu : True) (hc : n ≤ c) (hm : c ≤ maxLen) (hu2 : True) (ht : Tabs w) :
    Calls Tryd.prog 8 #[.slice A n c] w (RetB true w) := by
  have HR := Lib.hid hr
  have HMX := Lib.hid hm
  have HT := Lib.hid ht
  rw [maxLen_eq] at hm
  clear hr ht
  go_enter Tryd.func8, Tryd.ntmps8
  go_wp2_with fail
  refine (ldig_any A n c 60 f w HR.out hc HMX.out (by omega)).mono ?_
  rintro e w1 ⟨Ad, nd, cd, d, rfl, ho1, hd32, hd60, hb1⟩
  have HB1 := Lib.hid (bt (Below.refl w.heap.size w) hb1)
  have hcapd := ho1.cap
  have hmaxd := ho1.max
  rw [maxLen_eq] at hmaxd
  have Hd := Lib.hid ho1
  have hdl := Hd.out.len
  clear hb1 ho1
  clear hu hu2
  obtain ⟨R, hR⟩ : ∃ R, troot d = R := ⟨_, rfl⟩
  have hwf : ∀ s ∈ d, s.length ≤ maxLen := fun s hs => by rw [hd32 s hs]; decide
  have c1 := fun (W : World) (h : Ss W Ad nd cd d) (ht : Tabs W) => Root_any Ad nd cd d W h hd32 (by omega) ht
  rw [hR] at c1
  have c2 := fun (W : World) (h : Ss W Ad nd cd d) (ht : Tabs W) => range_any Ad nd cd d 0 nd W h hwf (by omega) (by omega) (by omega) ht
  rw [List.drop_zero, List.take_of_length_le (by omega), rangeV_yes (Tree.all32_iff.2 hd32), hR] at c2
  have c5 : ∀ (W : World) (k : Nat) (hk : k < nd) (x : List UInt8) (hx : d[k]? = some x) (h : Ss W Ad nd cd d) (ht : Tabs W), Calls Tryd.prog 26 #[.slice Ad nd cd, .int .i64 (k : Int), .int .i64 ((k : Int) + 1)] W fun e w' => e = .returned (.tuple #[sv x, .int .i64 0]) ∧ Below W.heap.size W w' := fun W k hk x hx h ht => by
    have hone : (d.take (k + 1)).drop k = [x] := by
      rw [List.drop_take, Nat.add_sub_cancel_left]
      obtain ⟨h1, h2⟩ := List.getElem?_eq_some_iff.1 hx
      rw [List.drop_eq_getElem_cons h1, h2]; rfl
    have := range_any Ad nd cd d k (k + 1) W h hwf (by omega) (by omega) (by omega) ht
    rw [hone, rangeV_yes (by rw [Tree.all32_iff]; intro s hs; rw [List.mem_singleton.1 hs]; exact hd32 x (List.mem_of_getElem? hx)), show troot [x] = x from Tree.root_one _ _ x, Int.natCast_add] at this
    exact this
  have C1 := Lib.hid c1
  have C2 := Lib.hid c2
  have C5 := Lib.hid c5
  have HDL := Lib.hid hdl
  have qn : ((str R).toList != (str R).toList) = false := by simp
  have H32 := Lib.hid hd32
  have HR2 := Lib.hid hR
  clear c1 c2 c5 hwf hd32 hdl hR
  go_wp2_with fail
  refine (C1.out w1 Hd.out.ss (HT.out.below HB1.out)).mono ?_
  rintro e w2 ⟨rfl, hb2⟩
  replace Hd := Lib.hid (Hd.out.keep hb2)
  have HB2 := Lib.hid (bt HB1.out hb2)
  clear hb2
  go_wp2_with fail
  refine (C2.out w2 Hd.out.ss (HT.out.below HB2.out)).mono ?_
  rintro e w3 ⟨rfl, hb3⟩
  replace Hd := Lib.hid (Hd.out.keep hb3)
  have HB3 := Lib.hid (bt HB2.out hb3)
  clear hb3
  go_wp2
  go_loopw [8] (fun vi wr => ∃ (k : Nat), k ≤ nd ∧ vi = .int .i64 k ∧ OwnS wr w.heap.size Ad nd cd d ∧ Below w.heap.size w wr) (fun vi _ => nd - (intOf vi).toNat)
  case atStart => exact ⟨0, by omega, rfl, Hd.out, HB3.out⟩
  case round =>
    obtain ⟨k, hk, rfl, hown, hbel⟩ := hrel
    have Hr := Lib.hid hown
    have HBR := Lib.hid hbel
    clear hown hbel
    by_cases hlt : k < nd
    · obtain ⟨x, hx⟩ : ∃ x, d[k]? = some x := ⟨_, List.getElem?_eq_getElem (by have := HDL.out; omega)⟩
      have HX := Lib.hid hx
      obtain ⟨g, rfl, hg, hgw⟩ := Hr.out.form (by omega)
      have qx : ((str x).toList != (str x).toList) = false := by simp
      clear hx
      have x0 := Hr.out.cell HX.out
      go_wp2_with fail
      refine (C5.out wr k hlt x HX.out Hr.out.ss (HT.out.below HBR.out)).mono ?_
      rintro e w11 ⟨rfl, hb11⟩
      replace Hr := Lib.hid (Hr.out.keep hb11)
      have HB11 := Lib.hid (bt HBR.out hb11)
      clear hb11
      have x1 := Hr.out.cell HX.out
      clear x0
      go_wp2
      go_roundw
      case rel => exact ⟨k + 1, by omega, by go_num, Hr.out, HB11.out⟩
      case measure => simp [intOf]; omega
    · obtain rfl : k = nd := by omega
      by_cases h0 : k = 0
      · subst h0
        have c6 := fun (W : World) (ht : Tabs W) => sum_nil_any W ht
        unfold SumPost at c6
        rw [show Sha.sum [] = R by
          rw [← HR2.out, List.length_eq_zero_iff.1 HDL.out]
          exact (Tree.root_nil tnd tnil).symm] at c6
        have C6 := Lib.hid c6
        have qs : ((str R).toList == (str R).toList) = true := by simp
        clear c6
        go_wp2_with fail
        refine (C6.out wr (HT.out.below HBR.out)).mono ?_
        rintro e w11 ⟨rfl, hb11⟩
        replace Hr := Lib.hid (Hr.out.keep hb11)
        have HB11 := Lib.hid (bt HBR.out hb11)
        clear hb11
        go_wp2_with fail
        refine (knows6_any w11 (HT.out.below HB11.out)).mono ?_
        rintro e w12 ⟨rfl, hb12⟩
        replace Hr := Lib.hid (Hr.out.keep hb12)
        have HB12 := Lib.hid (bt HB11.out hb12)
        clear hb12
        go_wp2
        go_ret
        exact ⟨rfl, HB12.out⟩
      · have b0 : ((k : Int) == 0) = false := beq_eq_false_iff_ne.2 (by omega)
        have b1 : ¬ (k : Int) = 0 := by omega
        obtain ⟨m, hm'⟩ : ∃ m, m + 1 = k := ⟨k - 1, by omega⟩
        have e1 : (k : Int) - 1 = (m : Int) := by omega
        obtain ⟨P, hP⟩ : ∃ P, tpath d m = P := ⟨_, rfl⟩
        obtain ⟨t, ht'⟩ : ∃ t, (Tree.sides m k).length = t := ⟨_, rfl⟩
        have hpl : P.length = t := by rw [← hP, ← ht', ← HDL.out]; exact Tree.path_len tnd tnil d.length d m (Nat.le_refl _) (by have := HDL.out; omega)
        have c7 := fun (W : World) (h : Ss W Ad k cd d) (ht : Tabs W) => path_any Ad k cd d m W h H32.out (by omega) (by omega) ht
        rw [hP] at c7
        unfold PathPost at c7
        have c8 := fun (W : World) => rsteps_any k m k W (Nat.le_refl _) (by omega) (by omega)
        rw [ht'] at c8
        have C7 := Lib.hid c7
        have C8 := Lib.hid c8
        have HPL := Lib.hid hpl
        clear c7 c8 hpl hP ht'
        go_wp2_with fail
        refine (C7.out wr Hr.out.ss (HT.out.below HBR.out)).mono ?_
        rintro e w11 ⟨Ap, np, cp, rfl, ho11, hb11⟩
        replace Hr := Lib.hid (Hr.out.keep hb11)
        have HB11 := Lib.hid (bt HBR.out hb11)
        have hcapp := ho11.cap
        have hmaxp := ho11.max
        rw [maxLen_eq] at hmaxp
        have Hp := Lib.hid ho11
        have hpl := Hp.out.len
        rw [HPL.out] at hpl
        clear hb11 ho11
        subst hpl
        go_wp2_with fail
        refine (C8.out w11).mono ?_
        rintro e wz ⟨rfl, rfl⟩
        go_wp2_with fail
        refine (knows6_any w11 (HT.out.below HB11.out)).mono ?_
        rintro e w12 ⟨rfl, hb12⟩
        replace Hr := Lib.hid (Hr.out.keep hb12)
        replace Hp := Lib.hid (Hp.out.keep hb12)
        have HB12 := Lib.hid (bt HB11.out hb12)
        clear hb12
        go_wp2
        go_ret
        exact ⟨rfl, HB12.out⟩
end Go.Proofs.YtoiilhbjlfdfpaaDoor
