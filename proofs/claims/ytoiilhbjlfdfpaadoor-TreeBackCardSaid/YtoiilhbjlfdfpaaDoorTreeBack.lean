/- TreeBack: the walk of the law. -/
import Derived.Test.YtoiilhbjlfdfpaaDoorTree12
import Derived.OpenShut
namespace Go.Proofs.YtoiilhbjlfdfpaaDoor
set_option linter.unusedVariables false
open Go.RowKit

theorem u64_wrap_nonneg (x : Int) : 0 ≤ IntKind.u64.wrap x := by
  have := IntKind.wrap_u64 x
  rw [this]
  exact Int.emod_nonneg _ (by decide)
set_option maxRecDepth 100000 in
set_option maxHeartbeats 16000000 in
theorem treeback_any (A : Option Addr) (n c : Nat) (f : Nat → Piece) (place : Int) (w : World) (hr : RowsAt w A n f) (hu : True) (hc : n ≤ c) (hm : c ≤ maxLen) (hu2 : True) (ht : Tabs w) (hp : -9223372036854775808 ≤ place ∧ place ≤ 9223372036854775807) :
    Calls Tryd.prog 5 #[.slice A n c, .int .i64 place] w (RetB true w) := by
  have HR := Lib.hid hr
  have HMX := Lib.hid hm
  have HT := Lib.hid ht
  rw [maxLen_eq] at hm
  clear hr ht
  obtain ⟨hp1, hp2⟩ := hp
  go_enter Tryd.func5, Tryd.ntmps5
  go_wp2_with fail
  refine (ldig_any A n c 60 f w HR.out hc HMX.out (by omega)).mono ?_
  rintro e w1 ⟨Ad, nd, cd, d, rfl, ho1, hd32, hd60, hb1⟩
  have HB1 := Lib.hid (bt (Below.refl w.heap.size w) hb1)
  have hcapd := ho1.cap
  have hmaxd := ho1.max
  rw [maxLen_eq] at hmaxd
  have Hd := Lib.hid ho1
  have hdl := Hd.out.len
  clear hb1 ho1
  clear hu hu2
  by_cases h0 : nd = 0
  ·
    have z0 : nd = 0 := h0
    clear h0
    subst z0
    go_wp2_with fail
    refine (knows6_any w1 (HT.out.below HB1.out)).mono ?_
    rintro e w2 ⟨rfl, hb2⟩
    replace Hd := Lib.hid (Hd.out.keep hb2)
    have HB2 := Lib.hid (bt HB1.out hb2)
    clear hb2
    go_wp2
    go_ret
    exact ⟨rfl, HB2.out⟩
  · have b0 : ((nd : Int) == 0) = false := beq_eq_false_iff_ne.2 (by omega)
    have b1 : ¬ (nd : Int) = 0 := by omega
    obtain ⟨j, hj⟩ : ∃ j : Nat, (IntKind.u64.wrap place).tmod (nd : Int) = (j : Int) := ⟨((IntKind.u64.wrap place).tmod (nd : Int)).toNat, by
      have a := u64_wrap_nonneg place
      have := Int.tmod_nonneg (nd : Int) a
      omega⟩
    have hjn : j < nd := by
      have a := u64_wrap_nonneg place
      have := Int.tmod_lt_of_pos (IntKind.u64.wrap place) (show (0 : Int) < nd by omega)
      omega
    have u1 : IntKind.u64.wrap (nd : Int) = (nd : Int) := IntWalk.u64_in _ (by omega)
    have u2 : IntKind.i64.wrap (j : Int) = (j : Int) := IntWalk.i64_in _ (by omega)
    have u3 : IntKind.u64.wrap (j : Int) = (j : Int) := IntWalk.u64_in _ (by omega)
    obtain ⟨x, hx⟩ : ∃ x, d[j]? = some x := ⟨_, List.getElem?_eq_getElem (by omega)⟩
    obtain ⟨g, rfl, hg, hgw⟩ := Hd.out.form (by omega)
    obtain ⟨P, hP⟩ : ∃ P, tpath d j = P := ⟨_, rfl⟩
    obtain ⟨R, hR⟩ : ∃ R, troot d = R := ⟨_, rfl⟩
    have hR32 : R.length = 32 := by rw [← hR]; exact troot_len hd32
    have zR : (str R).size = 32 := by rw [strLen]; exact hR32
    have hx32 : x.length = 32 := hd32 x (List.mem_of_getElem? hx)
    have hP32 : ∀ s ∈ P, s.length = 32 := by rw [← hP]; exact tpath_all hd32 j
    have hPl : P.length = (Tree.sides j nd).length := by rw [← hP, ← hdl]; exact Tree.path_len tnd tnil d.length d j (Nat.le_refl _) (by omega)
    have hcl : tclimb x j nd P = R := by
      rw [← hP, ← hR, ← hdl]
      exact Tree.climb_path tnd tnil d.length d j x (Nat.le_refl _) hx
    have c1 := fun (W : World) (h : Ss W (some ⟨g, 0, none⟩) nd cd d) (ht : Tabs W) => path_any _ nd cd d j W h hd32 (by omega) hjn ht
    rw [hP] at c1
    unfold PathPost at c1
    have c2 := fun (W : World) (h : Ss W (some ⟨g, 0, none⟩) nd cd d) (ht : Tabs W) => Root_any _ nd cd d W h hd32 (by omega) ht
    rw [hR] at c2
    have c3 := fun (W : World) (A : Option Addr) (m c : Nat) (h : Ss W A m c P) (ht : Tabs W) => climb_yes x j nd A m c P W hx32 hjn (by omega) h hP32 ht (by rw [← h.len]; exact hPl)
    rw [hcl] at c3
    have C1 := Lib.hid c1
    have C2 := Lib.hid c2
    have C3 := Lib.hid c3
    have HX := Lib.hid hx
    have qs : ((str R).toList == (str R).toList) = true := by simp
    clear c1 c2 c3 hx hP hR hcl hPl hP32 hx32 hR32 hd32 h0 hdl
    go_wp2_with fail
    refine (C1.out w1 Hd.out.ss (HT.out.below HB1.out)).mono ?_
    rintro e w2 ⟨Ap, np, cp, rfl, ho2, hb2⟩
    replace Hd := Lib.hid (Hd.out.keep hb2)
    have HB2 := Lib.hid (bt HB1.out hb2)
    have hcapp := ho2.cap
    have hmaxp := ho2.max
    rw [maxLen_eq] at hmaxp
    have Hp := Lib.hid ho2
    clear hb2 ho2
    go_wp2_with fail
    refine (C2.out w2 Hd.out.ss (HT.out.below HB2.out)).mono ?_
    rintro e w3 ⟨rfl, hb3⟩
    replace Hd := Lib.hid (Hd.out.keep hb3)
    replace Hp := Lib.hid (Hp.out.keep hb3)
    have HB3 := Lib.hid (bt HB2.out hb3)
    clear hb3
    have x0 := Hd.out.cell HX.out
    go_wp2_with fail
    refine (C3.out w3 Ap np cp Hp.out.ss (HT.out.below HB3.out)).mono ?_
    rintro e w4 ⟨rfl, hb4⟩
    replace Hd := Lib.hid (Hd.out.keep hb4)
    replace Hp := Lib.hid (Hp.out.keep hb4)
    have HB4 := Lib.hid (bt HB3.out hb4)
    clear hb4
    clear x0
    go_wp2_with fail
    refine (knows6_any w4 (HT.out.below HB4.out)).mono ?_
    rintro e w5 ⟨rfl, hb5⟩
    replace Hd := Lib.hid (Hd.out.keep hb5)
    replace Hp := Lib.hid (Hp.out.keep hb5)
    have HB5 := Lib.hid (bt HB4.out hb5)
    clear hb5
    go_wp2
    go_ret
    exact ⟨rfl, HB5.out⟩
end Go.Proofs.YtoiilhbjlfdfpaaDoor
