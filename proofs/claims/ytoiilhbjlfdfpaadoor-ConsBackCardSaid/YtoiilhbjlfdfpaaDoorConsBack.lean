/- ConsBack: the walk of the law. -/
import Derived.Test.YtoiilhbjlfdfpaaDoorMConsB
import Derived.OpenShut
namespace Go.Proofs.YtoiilhbjlfdfpaaDoor
set_option linter.unusedVariables false
open Go.RowKit

/-- What stands for nothing is not told where the proof is of the right length. -/
theorem roots_e (e e' : List UInt8) : ∀ (q m n : Nat) (wh : Bool) (one : List UInt8) (p : List (List UInt8)), n ≤ q → (Cons.roots tnd e' m n wh one p).2.2 = true → Cons.roots tnd e m n wh one p = Cons.roots tnd e' m n wh one p := by
  intro q
  induction q with
  | zero =>
    intro m n wh one p hn h
    by_cases he : m = n
    · subst he
      cases wh with
      | true => rw [Cons.roots_whole, Cons.roots_whole]
      | false =>
        match p, h with
        | [], h => rw [Cons.roots_bad _ _ _ _ _ (by simp)] at h; cases h
        | [x], h => rw [Cons.roots_one, Cons.roots_one]
        | x :: y :: r, h => rw [Cons.roots_bad _ _ _ _ _ (by simp)] at h; cases h
    · rcases List.eq_nil_or_concat p with rfl | ⟨r, d, rfl⟩
      · rw [Cons.roots_nil _ _ he] at h; cases h
      · rw [Cons.roots, if_neg he, if_neg (by simp), dif_pos (by omega)] at h; cases h
  | succ q ih =>
    intro m n wh one p hn h
    by_cases he : m = n
    · subst he
      cases wh with
      | true => rw [Cons.roots_whole, Cons.roots_whole]
      | false =>
        match p, h with
        | [], h => rw [Cons.roots_bad _ _ _ _ _ (by simp)] at h; cases h
        | [x], h => rw [Cons.roots_one, Cons.roots_one]
        | x :: y :: r, h => rw [Cons.roots_bad _ _ _ _ _ (by simp)] at h; cases h
    · rcases List.eq_nil_or_concat p with rfl | ⟨r, d, rfl⟩
      · rw [Cons.roots_nil _ _ he] at h; cases h
      · by_cases h2 : n < 2
        · rw [Cons.roots, if_neg he, if_neg (by simp), dif_pos h2] at h; cases h
        · rw [List.concat_eq_append] at h ⊢
          by_cases hk : m ≤ Tree.sp n
          · have kl := Tree.sp_lt (n := n) (by omega)
            rw [Cons.roots_left _ _ (by omega) he hk] at h ⊢
            rw [Cons.roots_left _ _ (by omega) he hk, ih m (Tree.sp n) wh one r (by omega) h]
          · have kp := Tree.sp_pos (n := n) (by omega)
            rw [Cons.roots_right _ _ (by omega) he hk] at h ⊢
            rw [Cons.roots_right _ _ (by omega) he hk, ih (m - Tree.sp n) (n - Tree.sp n) false one r (by omega) h]
theorem tcheck_honest {l : List (List UInt8)} {m : Nat} (hm : m ≤ l.length) : tcheck m l.length (troot (l.take m)) (troot l) (tprove l m) = true := by
  by_cases h0 : m = 0
  · subst h0
    rw [tcheck_zero, tprove_zero, List.take_zero, show troot [] = tnil from Tree.root_nil tnd tnil]
    simp
  · unfold tcheck
    rw [if_neg h0, tprove_pos l h0]
    have := Cons.roots_part tnd tnil l.length l m true (troot (l.take m)) (Nat.le_refl _) (by omega) hm (fun _ => rfl)
    rw [roots_e [] tnil l.length m l.length true (troot (l.take m)) _ (Nat.le_refl _) (by rw [this])]
    rw [this]
    simp
set_option maxRecDepth 100000 in
set_option maxHeartbeats 16000000 in
theorem consback_any (A : Option Addr) (n c : Nat) (f : Nat → Piece) (some : Int) (hp : 0 ≤ some ∧ some ≤ 255) (w : World) (hr : RowsAt w A n f) (hu : True) (hc : n ≤ c) (hm : c ≤ maxLen) (hu2 : True) (ht : Tabs w) :
    Calls Tryd.prog 12 #[.slice A n c, .int .u8 some] w (RetB true w) := by
  have HR := Lib.hid hr
  have HMX := Lib.hid hm
  have HT := Lib.hid ht
  rw [maxLen_eq] at hm
  clear hr ht
  obtain ⟨hp1, hp2⟩ := hp
  go_enter Tryd.func12, Tryd.ntmps12
  go_wp2_with fail
  refine (ldig7_any A n c f w HR.out hc HMX.out).mono ?_
  rintro e w1 ⟨Ad, nd, cd, d, rfl, ho1, hd32, hd60, hb1⟩
  have HB1 := Lib.hid (bt (Below.refl w.heap.size w) hb1)
  have hcapd := ho1.cap
  have hmaxd := ho1.max
  rw [maxLen_eq] at hmaxd
  have Hd := Lib.hid ho1
  have hdl := Hd.out.len
  clear hb1 ho1
  clear hu hu2
  obtain ⟨j, hj⟩ : ∃ j : Nat, some.tmod ((nd : Int) + 1) = (j : Int) := ⟨(some.tmod ((nd : Int) + 1)).toNat, by
    have := Int.tmod_nonneg ((nd : Int) + 1) hp1
    omega⟩
  have hjn : j ≤ nd := by
    have := Int.tmod_lt_of_pos some (show (0 : Int) < (nd : Int) + 1 by omega)
    omega
  have u1 : IntKind.i64.wrap some = some := IntWalk.i64_in _ (by omega)
  have u2 : IntKind.i64.wrap (j : Int) = (j : Int) := IntWalk.i64_in _ (by omega)
  obtain ⟨P, hP⟩ : ∃ P, tprove d j = P := ⟨_, rfl⟩
  obtain ⟨X, hX⟩ : ∃ R, troot (d.take j) = R := ⟨_, rfl⟩
  obtain ⟨R, hR⟩ : ∃ R, troot d = R := ⟨_, rfl⟩
  have lX : X.length = 32 := by rw [← hX]; exact troot_len (all_take hd32 j)
  have lR : R.length = 32 := by rw [← hR]; exact troot_len hd32
  have hP32 : ∀ s ∈ P, s.length = 32 := by rw [← hP]; exact tprove_all hd32 (by omega)
  have hPl : P.length ≤ 900 := by rw [← hP]; have := tprove_len (l := d) (m := j) (by omega); omega
  have hv : tcheck j nd X R P = true := by rw [← hP, ← hX, ← hR, ← hdl]; exact tcheck_honest (by omega)
  have c1 := fun (W : World) (h : Ss W Ad nd cd d) (ht : Tabs W) => cprove_any Ad nd cd d j W h hd32 (by omega) hjn ht
  rw [hP] at c1
  unfold PathPost at c1
  have c2 := fun (W : World) (A : Option Addr) (h : Ss W A j cd (d.take j)) (ht : Tabs W) => Root_any A j cd (d.take j) W h (all_take hd32 j) (by omega) ht
  rw [hX] at c2
  have c3 := fun (W : World) (h : Ss W Ad nd cd d) (ht : Tabs W) => Root_any Ad nd cd d W h hd32 (by omega) ht
  rw [hR] at c3
  have c4 := fun (W : World) (A : Option Addr) (k c : Nat) (h : Ss W A k c P) (ht : Tabs W) => ccheck_all j nd X R A k c P W h hP32 hjn (by omega) (by rw [← h.len]; exact hPl) lX lR ht true hv 0 rfl
  have C1 := Lib.hid c1
  have C2 := Lib.hid c2
  have C3 := Lib.hid c3
  have C4 := Lib.hid c4
  clear c1 c2 c3 c4 hP hX hR lX lR hP32 hPl hv hd32 hdl
  go_wp2_with fail
  refine (C1.out w1 Hd.out.ss (HT.out.below HB1.out)).mono ?_
  rintro e w2 ⟨Ap, np, cp, rfl, ho2, hb2⟩
  replace Hd := Lib.hid (Hd.out.keep hb2)
  have HB2 := Lib.hid (bt HB1.out hb2)
  have hcapp := ho2.cap
  have hmaxp := ho2.max
  rw [maxLen_eq] at hmaxp
  have Hp := Lib.hid ho2
  clear hb2 ho2
  go_wp2_with (refine wl_cutS_hi rfl (.tmp 28) (.tmp 29) rfl rfl Hd.out.ss j rfl (by omega) ?_; intro A9 hsc)
  refine (C2.out w2 A9 hsc (HT.out.below HB2.out)).mono ?_
  rintro e w3 ⟨rfl, hb3⟩
  replace Hd := Lib.hid (Hd.out.keep hb3)
  replace Hp := Lib.hid (Hp.out.keep hb3)
  have HB3 := Lib.hid (bt HB2.out hb3)
  clear hb3
  go_wp2_with fail
  refine (C3.out w3 Hd.out.ss (HT.out.below HB3.out)).mono ?_
  rintro e w4 ⟨rfl, hb4⟩
  replace Hd := Lib.hid (Hd.out.keep hb4)
  replace Hp := Lib.hid (Hp.out.keep hb4)
  have HB4 := Lib.hid (bt HB3.out hb4)
  clear hb4
  go_wp2_with fail
  refine (C4.out w4 Ap np cp Hp.out.ss (HT.out.below HB4.out)).mono ?_
  rintro e w5 ⟨rfl, hb5⟩
  replace Hd := Lib.hid (Hd.out.keep hb5)
  replace Hp := Lib.hid (Hp.out.keep hb5)
  have HB5 := Lib.hid (bt HB4.out hb5)
  clear hb5
  go_wp2_with fail
  refine (knows7_any w5 (HT.out.below HB5.out)).mono ?_
  rintro e w6 ⟨rfl, hb6⟩
  replace Hd := Lib.hid (Hd.out.keep hb6)
  replace Hp := Lib.hid (Hp.out.keep hb6)
  have HB6 := Lib.hid (bt HB5.out hb6)
  clear hb6
  go_wp2
  go_ret
  exact ⟨rfl, HB6.out⟩
end Go.Proofs.YtoiilhbjlfdfpaaDoor
