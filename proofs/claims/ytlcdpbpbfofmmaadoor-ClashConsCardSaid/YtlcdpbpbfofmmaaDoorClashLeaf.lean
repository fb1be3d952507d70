/- ClashLeaf: the walk of the law. -/
import Derived.Test.YtlcdpbpbfofmmaaDoorMClashC
namespace Go.Proofs.YtlcdpbpbfofmmaaDoor
set_option maxRecDepth 100000
set_option linter.unusedVariables false
open Go.RowKit
/-- The clash of a leaf, as the law asks for it. -/
def lfB (f : Nat → Piece) (n : Nat) (i : Int) (leaf : List UInt8) (p : List (List UInt8)) : Option (List UInt8 × List UInt8) := if fairB i n p = true then Cl.lf leaf (Tree.sides i.toNat n) (raws f n) p else none
theorem all32_of {p : List (List UInt8)} (h : Tree.all32 p = true) : ∀ s ∈ p, s.length = 32 := by
  intro s hs
  unfold Tree.all32 at h
  have := List.all_eq_true.1 h s hs
  simpa using this
theorem cleaf_any (Al : Option Addr) (nl cl : Nat) (f : Nat → Piece) (i : Int) (Ax : Option Addr) (nx cx : Nat) (leaf : List UInt8) (Ap : Option Addr) (np cp : Nat) (p : List (List UInt8)) (w : World) (hrows : RowsAt w Al nl f) (hc : nl ≤ cl) (hm : cl ≤ maxLen) (hn : nl ≤ 300) (hsm : ∀ i, i < nl → (f i).n ≤ 1000)
    (hx : Bs w Ax nx cx leaf) (hx2 : nx ≤ 1000) (hp : Ss w Ap np cp p) (hwf : ∀ s ∈ p, s.length ≤ maxLen) (ht : Tabs w) :
    Calls Tryd.prog 12 #[.slice Al nl cl, .int .i64 i, .slice Ax nx cx, .slice Ap np cp] w (ResPost w.heap.size (lfB f nl i leaf p) w) := by
  unfold lfB fairB
  by_cases h0 : 0 ≤ i
  · by_cases h1 : i < (nl : Int)
    · obtain ⟨j, rfl⟩ : ∃ j : Nat, i = (j : Int) := ⟨i.toNat, by omega⟩
      rw [decide_eq_true h0, decide_eq_true h1, Bool.true_and, Bool.true_and, Int.toNat_natCast]
      by_cases h2 : (Tree.all32 p && decide (p.length = (Tree.sides j nl).length)) = true
      · rw [if_pos h2]
        rw [Bool.and_eq_true, decide_eq_true_eq] at h2
        exact cleaf_yes Al nl cl f j Ax nx cx leaf Ap np cp p w hrows hc hm hn hsm (by omega) hx hx2 hp (all32_of h2.1) (by rw [← hp.len]; exact h2.2) ht
      · rw [if_neg h2]
        refine cleaf_proof Al nl cl j Ax nx cx leaf Ap np cp p w hc hm hn (by omega) hx hx2 hp hwf ?_ ht
        rw [Bool.and_eq_true, decide_eq_true_eq] at h2
        by_cases h3 : Tree.all32 p = true
        · exact .inl fun e => h2 ⟨h3, by rw [hp.len]; exact e⟩
        · exact .inr (by simpa using h3)
    · rw [decide_eq_false h1, Bool.false_and, Bool.and_false, if_neg (by decide)]
      exact cleaf_range Al nl cl i _ _ w hc hm (.inr (by omega))
  · rw [decide_eq_false h0, Bool.false_and, if_neg (by decide)]
    exact cleaf_range Al nl cl i _ _ w hc hm (.inl (by omega))
theorem lfB_clash {f : Nat → Piece} {n : Nat} {i : Int} {leaf : List UInt8} {p : List (List UInt8)} {r : List UInt8 × List UInt8} (h : lfB f n i leaf p = some r) : clashB r.1 r.2 = true := by
  unfold lfB at h
  split at h
  · exact Cl.lf_some leaf _ _ _ r h
  · cases h
theorem lf_len (leaf : List UInt8) (hl : leaf.length ≤ 1000) : ∀ (S : List Bool) (l p : List (List UInt8)) (r : List UInt8 × List UInt8), (∀ x ∈ l, x.length ≤ 1000) → (∀ s ∈ p, s.length = 32) → Cl.lf leaf S l p = some r → r.1.length ≤ 1000000 ∧ r.2.length ≤ 1000000
  | [], l, p, r, hx, hp, h => by
    rw [Cl.lf] at h
    unfold Cl.btw at h
    split at h
    · injection h with h
      rw [← h]
      refine ⟨by show (0 :: leaf).length ≤ _; rw [List.length_cons]; omega, ?_⟩
      cases l with
      | nil => show 1 ≤ 1000000; omega
      | cons x l => show (0 :: x).length ≤ _; rw [List.length_cons]; have := hx x (by simp); omega
    · cases h
  | s :: S, l, p, r, hx, hp, h => by
    rw [Cl.lf] at h
    rcases Cl.or_some h with h | ⟨_, h⟩
    · unfold Cl.btw at h
      split at h
      · injection h with h
        rw [← h]
        have hg : (p.getLastD tnil).length ≤ 100 := by
          cases hq : p.getLast? with
          | none => rw [List.getLastD_eq_getLast?, hq]; show tnil.length ≤ _; rw [show tnil.length = 32 from Sha.sum_length _]; omega
          | some x => rw [List.getLastD_eq_getLast?, hq]; show x.length ≤ _; rw [hp x (List.mem_of_getLast? hq)]; omega
        have hc : (Tree.clb tnd tnil (seal_ 0 leaf) S p.dropLast).length ≤ 100000 := clb_len (by rw [seal_len]; omega) _ _
        refine ⟨?_, by have := topB_le (l := Cl.lv l) (Cl.lv_all _); show (Cl.topB (Cl.lv l)).length ≤ _; omega⟩
        show (Cl.nb s _ _).length ≤ _
        unfold Cl.nb
        cases s <;> (simp only [Bool.false_eq_true, if_false, if_true, List.length_cons, List.length_append]; omega)
      · cases h
    · refine lf_len leaf hl S _ _ r ?_ (fun s hs => hp s (List.dropLast_subset _ hs)) h
      split
      · exact fun x hx2 => hx x (List.mem_of_mem_drop hx2)
      · exact fun x hx2 => hx x (List.mem_of_mem_take hx2)
set_option maxHeartbeats 32000000 in
theorem clashleaf_any (Al : Option Addr) (nl cl : Nat) (f : Nat → Piece) (i : Int) (Ax : Option Addr) (nx cx : Nat) (leaf : List UInt8) (Ap : Option Addr) (np cp : Nat) (p : List (List UInt8)) (w : World) (hrows : RowsAt w Al nl f) (hu0 : True) (hc : nl ≤ cl) (hm : cl ≤ maxLen) (hu1 : True)
    (hxr : Rd w w.heap.size Ax (leaf.map bv)) (hxl : leaf.length = nx) (hxc' : nx ≤ cx) (hxm' : cx ≤ maxLen) (hpr : Rd w w.heap.size Ap (p.map sv)) (hpl : p.length = np) (hpc' : np ≤ cp) (hpm' : cp ≤ maxLen) (hwf : ∀ s ∈ p, s.length ≤ maxLen) (ht : Tabs w) (hi : -9223372036854775808 ≤ i ∧ i ≤ 9223372036854775807) :
    Calls Tryd.prog 3 #[.slice Al nl cl, .int .i64 i, .slice Ax nx cx, .slice Ap np cp] w (RetB true w) := by
  obtain ⟨hi1, hi2⟩ := hi
  have hx : Bs w Ax nx cx leaf := ⟨hxr, hxl, hxc', hxm'⟩
  have hp : Ss w Ap np cp p := ⟨hpr, hpl, hpc', hpm'⟩
  clear hxr hxl hxc' hxm' hpr hpl hpc' hpm' hu0 hu1
  have hxc := hx.cap
  have hxm := hx.max
  have hm' := hm
  rw [maxLen_eq] at hm' hxm
  have g := great8_any Al nl cl f w hrows hc hm
  have g6 := great6_any Ap np cp p w hp hwf
  have KN := Lib.hid (fun (W : World) (hW : Below w.heap.size w W) => knows8_any W (ht.below hW))
  unfold Yes at KN
  cases hg : gr8 f nl with
  | true =>
    rw [hg] at g
    have G := Lib.hid g
    clear g g6 hg hrows hm hx hp hwf ht
    go_enter Tryd.func3, Tryd.ntmps3
    go_wp2_with fail
    refine G.out.mono ?_
    rintro e w1 ⟨rfl, rfl⟩
    go_wp2_with fail
    refine (KN.out _ (Below.refl _ _)).mono ?_
    rintro e w9 ⟨rfl, hb9⟩
    have HB9 := Lib.hid hb9
    clear hb9
    go_wp2
    go_ret
    exact ⟨rfl, HB9.out⟩
  | false =>
    rw [hg] at g
    have G := Lib.hid g
    obtain ⟨hn25, hsz⟩ := gr8_no hg
    clear g hg
    by_cases hbig : 300 < nx
    · clear g6 hrows hm hx hp hwf ht hsz
      go_enter Tryd.func3, Tryd.ntmps3
      go_wp2_with fail
      refine G.out.mono ?_
      rintro e w1 ⟨rfl, rfl⟩
      go_wp2_with fail
      refine (KN.out _ (Below.refl _ _)).mono ?_
      rintro e w9 ⟨rfl, hb9⟩
      have HB9 := Lib.hid hb9
      clear hb9
      go_wp2
      go_ret
      exact ⟨rfl, HB9.out⟩
    cases hg6 : Tree.great p with
    | true =>
      rw [hg6] at g6
      have G6 := Lib.hid g6
      clear g6 hg6 hrows hm hx hp hwf ht hsz
      go_enter Tryd.func3, Tryd.ntmps3
      go_wp2_with fail
      refine G.out.mono ?_
      rintro e w1 ⟨rfl, rfl⟩
      go_wp2_with fail
      refine G6.out.mono ?_
      rintro e w1 ⟨rfl, rfl⟩
      go_wp2_with fail
      refine (KN.out _ (Below.refl _ _)).mono ?_
      rintro e w9 ⟨rfl, hb9⟩
      have HB9 := Lib.hid hb9
      clear hb9
      go_wp2
      go_ret
      exact ⟨rfl, HB9.out⟩
    | false =>
      rw [hg6] at g6
      have G6 := Lib.hid g6
      have CL := Lib.hid (cleaf_any Al nl cl f i Ax nx cx leaf Ap np cp p w hrows hc hm (by omega) (fun j hj => by have := hsz j hj; omega) hx (by omega) hp hwf ht)
      have CF := Lib.hid (fun (W : World) (hW : Below w.heap.size w W) => fair8_any Al nl cl i Ap np cp p W hc hm (by omega) (hp.keep hW) hwf)
      obtain ⟨R, hR⟩ : ∃ R, lfB f nl i leaf p = R := ⟨_, rfl⟩
      have HRC := Lib.hid (show ∀ r, R = some r → clashB r.1 r.2 = true from fun r h => lfB_clash (hR.trans h))
      rw [hR] at CL
      have HT := Lib.hid ht
      cases hV : fairB i nl p with
      | false =>
        rw [hV] at CF
        have hRn : R = none := by rw [← hR]; unfold lfB; rw [hV]; rfl
        subst hRn
        clear g6 hg6 hrows hm hx hp hwf ht hsz hR hV HRC
        go_enter Tryd.func3, Tryd.ntmps3
        go_wp2_with fail
        refine G.out.mono ?_
        rintro e w1 ⟨rfl, rfl⟩
        go_wp2_with fail
        refine G6.out.mono ?_
        rintro e w1 ⟨rfl, rfl⟩
        go_wp2_with fail
        refine CL.out.mono ?_
        rintro e w2 ⟨A7, n7, c7, B7, m7, k7, rfl, hf1, hf2, hb2⟩
        obtain rfl : n7 = 0 := by rw [← hf1.len]; rfl
        obtain rfl : m7 = 0 := by rw [← hf2.len]; rfl
        have hbox := row_new w2 #[.slice A7 0 c7, .slice B7 0 k7] 29
        have HBX := Lib.hid (bt hb2 ((Below.refl _ w2).alloc (Nat.le_refl _) (.cells #[.slice A7 0 c7, .slice B7 0 k7] 29)))
        have x0 := hbox.cellQ 0 _ rfl
        have x1 := hbox.cellQ 1 _ rfl
        clear hf1 hf2 hb2 hbox
        go_wp2_with fail
        refine (CF.out _ HBX.out).mono ?_
        rintro e w3 ⟨rfl, rfl⟩
        go_wp2_with fail
        refine (KN.out _ HBX.out).mono ?_
        rintro e w9 ⟨rfl, hb9⟩
        have HB9 := Lib.hid (bt HBX.out hb9)
        clear hb9 x0 x1
        go_wp2
        go_ret
        exact ⟨rfl, HB9.out⟩
      | true =>
        rw [hV] at CF
        have hfb := hV
        unfold fairB at hfb
        rw [Bool.and_eq_true, Bool.and_eq_true, Bool.and_eq_true, decide_eq_true_eq, decide_eq_true_eq, decide_eq_true_eq] at hfb
        obtain ⟨h0, h1, h2, h3⟩ := hfb
        obtain ⟨j, rfl⟩ : ∃ j : Nat, i = (j : Int) := ⟨i.toNat, by omega⟩
        rw [Int.toNat_natCast] at h3
        have CR := Lib.hid (fun (W : World) (hW : Below w.heap.size w W) => by
          have := rleaf8_any _ Al nl cl f j Ax nx cx leaf Ap np cp p W (Nat.le_refl _) (hrows.keep hW) hc hm (by omega) (fun j hj => by have := hsz j hj; omega) (by omega) (hx.keep hW) (by omega) (hp.keep hW) (all32_of h2) (by rw [← hp.len]; exact h3)
          rw [show Cl.lf leaf (Tree.sides j nl) (raws f nl) p = R by rw [← hR]; unfold lfB; rw [hV, if_pos rfl, Int.toNat_natCast]] at this
          exact this)
        have HLE := Lib.hid (show (cl1 R).length ≤ 1000000 ∧ (cl2 R).length ≤ 1000000 by
          cases hRR : R with
          | none => exact ⟨Nat.zero_le _, Nat.zero_le _⟩
          | some r =>
            rw [hRR] at hR
            unfold lfB at hR
            rw [hV, if_pos rfl] at hR
            refine lf_len leaf (by rw [hx.len]; omega) _ _ _ r (fun x hxm => ?_) (all32_of h2) hR
            unfold raws at hxm
            obtain ⟨k, hk, rfl⟩ := List.mem_map.1 hxm
            have hk2 := List.mem_range.1 hk
            have := hsz k hk2
            rw [(rows_pc hrows hk2).len]; omega)
        clear g6 hg6 hrows hm hx hp hwf ht hsz hR hV h0 h1 h2 h3
        go_enter Tryd.func3, Tryd.ntmps3
        go_wp2_with fail
        refine G.out.mono ?_
        rintro e w1 ⟨rfl, rfl⟩
        go_wp2_with fail
        refine G6.out.mono ?_
        rintro e w1 ⟨rfl, rfl⟩
        go_wp2_with fail
        refine CL.out.mono ?_
        rintro e w2 ⟨A7, n7, c7, B7, m7, k7, rfl, hf1, hf2, hb2⟩
        have hbA : Below w2.heap.size w2 (w2.alloc (.cells #[.slice A7 n7 c7, .slice B7 m7 k7] 29)) := (Below.refl _ w2).alloc (Nat.le_refl _) _
        have HBX := Lib.hid (bt hb2 hbA)
        have HROW := Lib.hid (row_new w2 #[.slice A7 n7 c7, .slice B7 m7 k7] 29)
        have HF := Lib.hid (And.intro (hf1.bs.keep hbA) (hf2.bs.keep hbA))
        clear hf1 hf2 hb2 hbA
        go_wp2_with fail
        refine (CF.out _ HBX.out).mono ?_
        rintro e w3 ⟨rfl, rfl⟩
        go_wp2_with fail
        refine (CR.out _ HBX.out).mono ?_
        rintro e w4 ⟨A9, n9, c9, B9, m9, k9, rfl, hg1, hg2, hb4⟩
        have hbB : Below w4.heap.size w4 (w4.alloc (.cells #[.slice A9 n9 c9, .slice B9 m9 k9] 33)) := (Below.refl _ w4).alloc (Nat.le_refl _) _
        have hb5 := bt hb4 hbB
        have HB5 := Lib.hid (bt HBX.out hb5)
        have hbox := HROW.out.belowS hb5 (Nat.le_refl _)
        have x0 := hbox.cellQ 0 _ rfl
        have x1 := hbox.cellQ 1 _ rfl
        have hbox2 := row_new w4 #[.slice A9 n9 c9, .slice B9 m9 k9] 33
        have y0 := hbox2.cellQ 0 _ rfl
        have y1 := hbox2.cellQ 1 _ rfl
        have SM := Lib.hid (same8_any R.isSome (cl1 R) (cl2 R) A7 n7 c7 B7 m7 k7 A9 n9 c9 B9 m9 k9 _ (HF.out.1.keep hb5) (HF.out.2.keep hb5) (hg1.bs.keep hbB) (hg2.bs.keep hbB) (by rw [← HF.out.1.len]; exact HLE.out.1) (by rw [← HF.out.2.len]; exact HLE.out.2) (HT.out.below HB5.out) (fun hq => by
          obtain ⟨r, hr⟩ := Option.isSome_iff_exists.1 hq
          have := HRC.out r hr
          rw [hr]
          exact this))
        clear hg1 hg2 hb4 hb5 hbB hbox hbox2
        go_wp2_with fail
        refine SM.out.mono ?_
        rintro e w6 ⟨rfl, hb6⟩
        have HB6 := Lib.hid (bt HB5.out hb6)
        clear hb6 x0 x1 y0 y1
        go_wp2_with fail
        refine (KN.out _ HB6.out).mono ?_
        rintro e w9 ⟨rfl, hb9⟩
        have HB9 := Lib.hid (bt HB6.out hb9)
        clear hb9
        go_wp2
        go_ret
        exact ⟨rfl, HB9.out⟩
end Go.Proofs.YtlcdpbpbfofmmaaDoor
