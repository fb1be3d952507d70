/- ConsEnds: the walk of the law. -/
import Derived.Test.YtoiilhbjlfdfpaaDoorMConsB
import Derived.OpenShut
namespace Go.Proofs.YtoiilhbjlfdfpaaDoor
set_option linter.unusedVariables false
open Go.RowKit

set_option maxRecDepth 100000 in
set_option maxHeartbeats 16000000 in
theorem consends_any (A : Option Addr) (n c : Nat) (f : Nat → Piece) (more : List UInt8) (hmore : more.length ≤ maxLen) (w : World) (hr : RowsAt w A n f) (hu : True) (hc : n ≤ c) (hm : c ≤ maxLen) (hu2 : True) (ht : Tabs w) :
    Calls Tryd.prog 14 #[.slice A n c, sv more] w (RetB true w) := by
  have HR := Lib.hid hr
  have HMX := Lib.hid hm
  have HT := Lib.hid ht
  rw [maxLen_eq] at hm
  clear hr ht
  have zm := strLen more
  rw [maxLen_eq] at hmore
  obtain ⟨qm, hqm⟩ : ∃ q, more.length = q := ⟨_, rfl⟩
  rw [hqm] at zm hmore
  go_enter Tryd.func14, Tryd.ntmps14
  go_wp2_with fail
  refine (ldig7_any A n c f w HR.out hc HMX.out).mono ?_
  rintro e w1 ⟨Ad, nd, cd, d, rfl, ho1, hd32, hd60, hb1⟩
  have HB1 := Lib.hid (bt (Below.refl w.heap.size w) hb1)
  have hcapd := ho1.cap
  have hmaxd := ho1.max
  rw [maxLen_eq] at hmaxd
  have Hd := Lib.hid ho1
  have hdl := Hd.out.len
  clear hb1 ho1
  clear hu hu2
  obtain ⟨R, hR⟩ : ∃ R, troot d = R := ⟨_, rfl⟩
  obtain ⟨E, hE⟩ : ∃ E, tnil = E := ⟨_, rfl⟩
  have lR : R.length = 32 := by rw [← hR]; exact troot_len hd32
  have lE : E.length = 32 := by rw [← hE]; exact Sha.sum_length _
  have hpn : tprove d nd = [] := by
    by_cases h0 : nd = 0
    · rw [h0]; exact tprove_zero d
    · rw [tprove_pos d h0]
      have := Cons.part_end tnd tnil d true
      rw [hdl] at this
      exact this
  have v1 : tcheck nd nd R R [] = true := by
    by_cases h0 : nd = 0
    · subst h0
      have hrE : R = tnil := by rw [← hR, List.length_eq_zero_iff.1 hdl]; exact Tree.root_nil tnd tnil
      rw [tcheck_zero, hrE]; simp
    · rw [tcheck_all h0]; simp
  have v2 : tcheck 0 nd E R [] = true := by rw [tcheck_zero, ← hE]; simp
  have v3 : tcheck nd nd R R [more] = false := by
    by_cases h0 : nd = 0
    · subst h0; rw [tcheck_zero]; simp
    · rw [tcheck_all h0]; simp
  have v4 : tcheck 0 nd E R [more] = false := by rw [tcheck_zero]; simp
  have c1 := fun (W : World) (h : Ss W Ad nd cd d) (ht : Tabs W) => Root_any Ad nd cd d W h hd32 (by omega) ht
  rw [hR] at c1
  have c2 := fun (W : World) (ht : Tabs W) => Root_any none 0 0 [] W ⟨Rd.nil, rfl, Nat.le_refl _, Nat.zero_le _⟩ (by simp) (by omega) ht
  rw [show troot [] = E from (Tree.root_nil tnd tnil).trans hE] at c2
  have c3 := fun (W : World) (h : Ss W Ad nd cd d) (ht : Tabs W) => cprove_any Ad nd cd d nd W h hd32 (by omega) (Nat.le_refl _) ht
  rw [hpn] at c3
  have c4 := fun (W : World) (h : Ss W Ad nd cd d) (ht : Tabs W) => cprove_any Ad nd cd d 0 W h hd32 (by omega) (by omega) ht
  rw [tprove_zero] at c4
  unfold PathPost at c3 c4
  have c5 := fun (W : World) (ht : Tabs W) => ccheck_all nd nd R R none 0 0 [] W ⟨Rd.nil, rfl, Nat.le_refl _, Nat.zero_le _⟩ (by simp) (Nat.le_refl _) (by omega) (by omega) lR lR ht true v1 0 rfl
  have c6 := fun (W : World) (ht : Tabs W) => ccheck_all 0 nd E R none 0 0 [] W ⟨Rd.nil, rfl, Nat.le_refl _, Nat.zero_le _⟩ (by simp) (by omega) (by omega) (by omega) lE lR ht true v2 0 rfl
  have C1 := Lib.hid c1
  have C2 := Lib.hid c2
  have C3 := Lib.hid c3
  have C4 := Lib.hid c4
  have C5 := Lib.hid c5
  have C6 := Lib.hid c6
  have HV3 := Lib.hid v3
  have HV4 := Lib.hid v4
  have HLL := Lib.hid (And.intro lR lE)
  clear c1 c2 c3 c4 c5 c6 v1 v2 v3 v4 hR hE lR lE hpn hd32 hdl
  by_cases hm32 : qm = 32
  · subst hm32
    have hmo : ∀ s ∈ [more], s.length = 32 := fun s hs => by rw [List.mem_singleton.1 hs]; exact hqm
    have C7 := Lib.hid (fun (W : World) (A : Option Addr) (h : Ss W A 1 1 [more]) (ht : Tabs W) => ccheck_all nd nd R R A 1 1 [more] W h hmo (Nat.le_refl _) (by omega) (by omega) HLL.out.1 HLL.out.1 ht false HV3.out 6 rfl)
    have C8 := Lib.hid (fun (W : World) (A : Option Addr) (h : Ss W A 1 1 [more]) (ht : Tabs W) => ccheck_all 0 nd E R A 1 1 [more] W h hmo (by omega) (by omega) (by omega) HLL.out.2 HLL.out.1 ht false HV4.out 6 rfl)
    clear hmo hqm
    go_wp2_with fail
    refine (C1.out w1 Hd.out.ss (HT.out.below HB1.out)).mono ?_
    rintro e w2 ⟨rfl, hb2⟩
    replace Hd := Lib.hid (Hd.out.keep hb2)
    have HB2 := Lib.hid (bt HB1.out hb2)
    clear hb2
    go_wp2_with fail
    refine (C2.out w2 (HT.out.below HB2.out)).mono ?_
    rintro e w3 ⟨rfl, hb3⟩
    replace Hd := Lib.hid (Hd.out.keep hb3)
    have HB3 := Lib.hid (bt HB2.out hb3)
    clear hb3
    go_wp2_with fail
    refine (C3.out w3 Hd.out.ss (HT.out.below HB3.out)).mono ?_
    rintro e w4 ⟨Ap, np, cp, rfl, ho4, hb4⟩
    replace Hd := Lib.hid (Hd.out.keep hb4)
    have HB4 := Lib.hid (bt HB3.out hb4)
    have hcapp := ho4.cap
    have hmaxp := ho4.max
    rw [maxLen_eq] at hmaxp
    have Hp := Lib.hid ho4
    have hpn := Hp.out.len
    clear hb4 ho4
    obtain rfl : np = 0 := by rw [← hpn]; rfl
    clear hpn
    go_wp2_with fail
    refine (C4.out w4 Hd.out.ss (HT.out.below HB4.out)).mono ?_
    rintro e w5 ⟨Aq, nq, cq, rfl, ho5, hb5⟩
    replace Hd := Lib.hid (Hd.out.keep hb5)
    replace Hp := Lib.hid (Hp.out.keep hb5)
    have HB5 := Lib.hid (bt HB4.out hb5)
    have hcapq := ho5.cap
    have hmaxq := ho5.max
    rw [maxLen_eq] at hmaxq
    have Hq := Lib.hid ho5
    have hqn := Hq.out.len
    clear hb5 ho5
    obtain rfl : nq = 0 := by rw [← hqn]; rfl
    clear hqn
    go_wp2_with fail
    refine (C5.out w5 (HT.out.below HB5.out)).mono ?_
    rintro e w6 ⟨rfl, hb6⟩
    replace Hd := Lib.hid (Hd.out.keep hb6)
    replace Hp := Lib.hid (Hp.out.keep hb6)
    replace Hq := Lib.hid (Hq.out.keep hb6)
    have HB6 := Lib.hid (bt HB5.out hb6)
    clear hb6
    go_wp2_with fail
    refine (C6.out w6 (HT.out.below HB6.out)).mono ?_
    rintro e w7 ⟨rfl, hb7⟩
    replace Hd := Lib.hid (Hd.out.keep hb7)
    replace Hp := Lib.hid (Hp.out.keep hb7)
    replace Hq := Lib.hid (Hq.out.keep hb7)
    have HB7 := Lib.hid (bt HB6.out hb7)
    clear hb7
    go_wp2_with fail
    have HA7 := Lib.hid (show Below w.heap.size w (w7.alloc (.cells #[sv more] 9)) from HB7.out.alloc HB7.out.size _)
    have HO7 := Lib.hid (OwnS.one w7 more (Nat.le_refl _))
    refine (C7.out _ _ HO7.out.ss (HT.out.below HA7.out)).mono ?_
    rintro e w8 ⟨rfl, hb8⟩
    have HB8 := Lib.hid (bt HA7.out hb8)
    clear hb8
    go_wp2_with fail
    have HA8 := Lib.hid (show Below w.heap.size w (w8.alloc (.cells #[sv more] 9)) from HB8.out.alloc HB8.out.size _)
    have HO8 := Lib.hid (OwnS.one w8 more (Nat.le_refl _))
    refine (C8.out _ _ HO8.out.ss (HT.out.below HA8.out)).mono ?_
    rintro e w9 ⟨rfl, hb9⟩
    have HB9 := Lib.hid (bt HA8.out hb9)
    clear hb9
    go_wp2_with fail
    refine (knows7_any w9 (HT.out.below HB9.out)).mono ?_
    rintro e w10 ⟨rfl, hb10⟩
    have HB10 := Lib.hid (bt HB9.out hb10)
    clear hb10
    go_wp2
    go_ret
    exact ⟨rfl, HB10.out⟩
  · have b1 : ¬ (qm : Int) = 32 := by omega
    have b2 : ((qm : Int) == 32) = false := beq_eq_false_iff_ne.2 b1
    clear hqm
    go_wp2_with fail
    refine (C1.out w1 Hd.out.ss (HT.out.below HB1.out)).mono ?_
    rintro e w2 ⟨rfl, hb2⟩
    replace Hd := Lib.hid (Hd.out.keep hb2)
    have HB2 := Lib.hid (bt HB1.out hb2)
    clear hb2
    go_wp2_with fail
    refine (C2.out w2 (HT.out.below HB2.out)).mono ?_
    rintro e w3 ⟨rfl, hb3⟩
    replace Hd := Lib.hid (Hd.out.keep hb3)
    have HB3 := Lib.hid (bt HB2.out hb3)
    clear hb3
    go_wp2_with fail
    refine (C3.out w3 Hd.out.ss (HT.out.below HB3.out)).mono ?_
    rintro e w4 ⟨Ap, np, cp, rfl, ho4, hb4⟩
    replace Hd := Lib.hid (Hd.out.keep hb4)
    have HB4 := Lib.hid (bt HB3.out hb4)
    have hcapp := ho4.cap
    have hmaxp := ho4.max
    rw [maxLen_eq] at hmaxp
    have Hp := Lib.hid ho4
    have hpn := Hp.out.len
    clear hb4 ho4
    obtain rfl : np = 0 := by rw [← hpn]; rfl
    clear hpn
    go_wp2_with fail
    refine (C4.out w4 Hd.out.ss (HT.out.below HB4.out)).mono ?_
    rintro e w5 ⟨Aq, nq, cq, rfl, ho5, hb5⟩
    replace Hd := Lib.hid (Hd.out.keep hb5)
    replace Hp := Lib.hid (Hp.out.keep hb5)
    have HB5 := Lib.hid (bt HB4.out hb5)
    have hcapq := ho5.cap
    have hmaxq := ho5.max
    rw [maxLen_eq] at hmaxq
    have Hq := Lib.hid ho5
    have hqn := Hq.out.len
    clear hb5 ho5
    obtain rfl : nq = 0 := by rw [← hqn]; rfl
    clear hqn
    go_wp2_with fail
    refine (knows7_any w5 (HT.out.below HB5.out)).mono ?_
    rintro e w6 ⟨rfl, hb6⟩
    replace Hd := Lib.hid (Hd.out.keep hb6)
    replace Hp := Lib.hid (Hp.out.keep hb6)
    replace Hq := Lib.hid (Hq.out.keep hb6)
    have HB6 := Lib.hid (bt HB5.out hb6)
    clear hb6
    go_wp2
    go_ret
    exact ⟨rfl, HB6.out⟩
end Go.Proofs.YtoiilhbjlfdfpaaDoor
