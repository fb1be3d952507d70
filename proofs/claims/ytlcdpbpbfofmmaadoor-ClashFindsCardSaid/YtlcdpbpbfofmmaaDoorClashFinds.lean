/- ClashFinds: the walk of the law. -/
import Derived.Test.YtlcdpbpbfofmmaaDoorMClashE
namespace Go.Proofs.YtlcdpbpbfofmmaaDoor
set_option maxRecDepth 100000
set_option linter.unusedVariables false
open Go.RowKit
set_option maxHeartbeats 64000000 in
theorem clashfinds_any (Al : Option Addr) (nl cl : Nat) (f : Nat → Piece) (i : Int) (Ax : Option Addr) (nx cx : Nat) (leaf : List UInt8) (Ap : Option Addr) (np cp : Nat) (p : List (List UInt8)) (w : World) (hrows : RowsAt w Al nl f) (hu0 : True) (hc : nl ≤ cl) (hm : cl ≤ maxLen) (hu1 : True)
    (hxr : Rd w w.heap.size Ax (leaf.map bv)) (hxl : leaf.length = nx) (hxc' : nx ≤ cx) (hxm' : cx ≤ maxLen) (hpr : Rd w w.heap.size Ap (p.map sv)) (hpl : p.length = np) (hpc' : np ≤ cp) (hpm' : cp ≤ maxLen) (hwf : ∀ s ∈ p, s.length ≤ maxLen) (ht : Tabs w) (hi : -9223372036854775808 ≤ i ∧ i ≤ 9223372036854775807) :
    Calls Tryd.prog 4 #[.slice Al nl cl, .int .i64 i, .slice Ax nx cx, .slice Ap np cp] w (RetB true w) := by
  obtain ⟨hi1, hi2⟩ := hi
  have hx : Bs w Ax nx cx leaf := ⟨hxr, hxl, hxc', hxm'⟩
  have hp : Ss w Ap np cp p := ⟨hpr, hpl, hpc', hpm'⟩
  clear hxr hxl hxc' hxm' hpr hpl hpc' hpm' hu0 hu1
  have hxc := hx.cap
  have hxm := hx.max
  have hm' := hm
  rw [maxLen_eq] at hm' hxm
  have g := great8_any Al nl cl f w hrows hc hm
  have g6 := great6_any Ap np cp p w hp hwf
  have KN := Lib.hid (fun (W : World) (hW : Below w.heap.size w W) => knows8_any W (ht.below hW))
  unfold Yes at KN
  cases hg : gr8 f nl with
  | true =>
    rw [hg] at g
    have G := Lib.hid g
    clear g g6 hg hrows hm hx hp hwf ht
    go_enter Tryd.func4, Tryd.ntmps4
    go_wp2_with fail
    refine (G.out).mono ?_
    rintro e wz ⟨rfl, rfl⟩
    go_wp2_with fail
    refine (KN.out w (Below.refl w.heap.size w)).mono ?_
    rintro e w1 ⟨rfl, hb1⟩
    have HB1 := Lib.hid (bt (Below.refl w.heap.size w) hb1)
    clear hb1
    go_wp2
    go_ret
    exact ⟨rfl, HB1.out⟩
  | false =>
    rw [hg] at g
    have G := Lib.hid g
    obtain ⟨hn25, hsz⟩ := gr8_no hg
    clear g hg
    by_cases hbig : 300 < nx
    · clear g6 hrows hm hx hp hwf ht hsz
      go_enter Tryd.func4, Tryd.ntmps4
      go_wp2_with fail
      refine (G.out).mono ?_
      rintro e wz ⟨rfl, rfl⟩
      go_wp2_with fail
      refine (KN.out w (Below.refl w.heap.size w)).mono ?_
      rintro e w1 ⟨rfl, hb1⟩
      have HB1 := Lib.hid (bt (Below.refl w.heap.size w) hb1)
      clear hb1
      go_wp2
      go_ret
      exact ⟨rfl, HB1.out⟩
    cases hg6 : Tree.great p with
    | true =>
      rw [hg6] at g6
      have G6 := Lib.hid g6
      clear g6 hg6 hrows hm hx hp hwf ht hsz
      go_enter Tryd.func4, Tryd.ntmps4
      go_wp2_with fail
      refine (G.out).mono ?_
      rintro e wz ⟨rfl, rfl⟩
      go_wp2_with fail
      refine (G6.out).mono ?_
      rintro e wz ⟨rfl, rfl⟩
      go_wp2_with fail
      refine (KN.out w (Below.refl w.heap.size w)).mono ?_
      rintro e w1 ⟨rfl, hb1⟩
      have HB1 := Lib.hid (bt (Below.refl w.heap.size w) hb1)
      clear hb1
      go_wp2
      go_ret
      exact ⟨rfl, HB1.out⟩
    | false =>
      rw [hg6] at g6
      have G6 := Lib.hid g6
      clear g6 hg6
      by_cases h0 : i < 0
      · clear hrows hm hx hp hwf ht hsz
        go_enter Tryd.func4, Tryd.ntmps4
        go_wp2_with fail
        refine (G.out).mono ?_
        rintro e wz ⟨rfl, rfl⟩
        go_wp2_with fail
        refine (G6.out).mono ?_
        rintro e wz ⟨rfl, rfl⟩
        go_wp2_with fail
        refine (KN.out w (Below.refl w.heap.size w)).mono ?_
        rintro e w1 ⟨rfl, hb1⟩
        have HB1 := Lib.hid (bt (Below.refl w.heap.size w) hb1)
        clear hb1
        go_wp2
        go_ret
        exact ⟨rfl, HB1.out⟩
      by_cases h1 : (nl : Int) ≤ i
      · clear hrows hm hx hp hwf ht hsz
        go_enter Tryd.func4, Tryd.ntmps4
        go_wp2_with fail
        refine (G.out).mono ?_
        rintro e wz ⟨rfl, rfl⟩
        go_wp2_with fail
        refine (G6.out).mono ?_
        rintro e wz ⟨rfl, rfl⟩
        go_wp2_with fail
        refine (KN.out w (Below.refl w.heap.size w)).mono ?_
        rintro e w1 ⟨rfl, hb1⟩
        have HB1 := Lib.hid (bt (Below.refl w.heap.size w) hb1)
        clear hb1
        go_wp2
        go_ret
        exact ⟨rfl, HB1.out⟩
      obtain ⟨j, rfl⟩ : ∃ j : Nat, i = (j : Int) := ⟨i.toNat, by omega⟩
      have hj : j < nl := by omega
      obtain ⟨gl, ol, rfl, hgl, hcell⟩ := hrows (by omega)
      have hrs := raws_small hrows (k := 300) hsz
      have hrawl : (raws f nl).length = nl := raws_len _ _
      obtain ⟨X, hX⟩ : ∃ X, tleaves f nl = X := ⟨_, rfl⟩
      have hXl : X.length = nl := by rw [← hX]; simp [tleaves]
      have hX32 : ∀ s ∈ X, s.length = 32 := by rw [← hX, raws_lv]; exact Cl.lv_all _
      obtain ⟨d, hd⟩ : ∃ d, seal_ 0 leaf = d := ⟨_, rfl⟩
      have hd32 : d.length = 32 := by rw [← hd]; exact seal_len _ _
      obtain ⟨RT, hRT⟩ : ∃ RT, troot X = RT := ⟨_, rfl⟩
      have CD := Lib.hid (show ∀ W, Below w.heap.size w W → Calls Tryd.prog 16 #[.slice (some ⟨gl, ol, none⟩) nl cl] W (OwnSPost W.heap.size X W) from fun W hW => by
        rw [← hX]; exact rleaves_any _ nl cl f W (hrows.keep hW) hc hm (by omega) (fun k hk => by have := hsz k hk; omega))
      unfold OwnSPost at CD
      have CLF := Lib.hid (show ∀ W, Below w.heap.size w W → Calls Tryd.prog 18 #[.slice Ax nx cx] W (SealPost 0 leaf W) from fun W hW => by
        have h2 := hx.keep hW
        exact rleaf_any Ax nx cx leaf W h2.rd h2.len h2.cap h2.max (by omega))
      unfold SealPost at CLF
      rw [hd] at CLF
      have CRT := Lib.hid (show ∀ (A : Option Addr) (n c : Nat) (W : World), OwnS W w.heap.size A n c X → Calls Tryd.prog 19 #[.slice A n c] W (StrPost RT W) from fun A n c W h => by
        have := rroot_any _ A n c X W (Nat.le_refl _) h.ss hX32 (by have := h.len; omega)
        rw [hRT] at this
        exact this)
      have CP := Lib.hid (show ∀ (A : Option Addr) (n c : Nat) (W : World), Below w.heap.size w W → OwnS W w.heap.size A n c X → Calls Tryd.prog 21 #[.slice A n c, .int .i64 (j : Int)] W (PathPost (tpath X j) W) from fun A n c W hW h => by
        have e := h.len
        exact path_any A n c X j W h.ss hX32 (by omega) (by omega) (ht.below hW))
      unfold PathPost at CP
      obtain ⟨li, hli⟩ : ∃ li, f j = li := ⟨_, rfl⟩
      obtain ⟨lj, hlj⟩ : ∃ lj, li.l = lj := ⟨_, rfl⟩
      have hraw : (raws f nl)[j]? = some lj := by rw [raws_at _ _ _ hj, hli, hlj]
      have hpc := rows_pc hrows hj
      rw [hli] at hpc
      have hbsj : Bs w li.a li.n li.c lj := by rw [← hlj]; exact ⟨hpc.rd, hpc.len, hpc.cap, hpc.max⟩
      have hlin : li.n ≤ 300 := by rw [← hli]; exact hsz j hj
      obtain ⟨own, hown⟩ : ∃ q, tpath X j = q := ⟨_, rfl⟩
      have how32 : ∀ s ∈ own, s.length = 32 := by rw [← hown]; exact Tree.path_all tnd tnil (fun s => s.length = 32) (fun l hl => troot_len hl) X.length X j (Nat.le_refl _) hX32
      rw [hown] at CP
      have CL2 := Lib.hid (show ∀ (A : Option Addr) (n c : Nat) (W : World), Below w.heap.size w W → OwnS W w.heap.size A n c own → Calls Tryd.prog 12 #[.slice (some ⟨gl, ol, none⟩) nl cl, .int .i64 (j : Int), .slice li.a li.n li.c, .slice A n c] W (ResPost W.heap.size none W) from fun A n c W hW h => by
        have h2 := cleaf_any _ nl cl f (j : Int) li.a li.n li.c lj A n c own W (hrows.keep hW) hc hm (by omega) (fun k hk => by have := hsz k hk; omega) (hbsj.keep hW) (by omega) h.ss (fun s hs => by rw [how32 s hs, maxLen_eq]; omega) (ht.below hW)
        have h3 : lfB f nl (j : Int) lj own = none := by
          unfold lfB
          rw [Int.toNat_natCast]
          split
          · have := Cl.lf_own lj nl (raws f nl) j (by rw [hrawl]; exact Nat.le_refl _) hraw
            rw [hrawl, ← raws_lv, hX, hown] at this
            exact this
          · rfl
        rw [h3] at h2
        exact h2)
      have HXL := Lib.hid (show ∀ W, Below w.heap.size w W → W.cell? ⟨gl, ol + j, none⟩ = some (.slice li.a li.n li.c) from fun W hW => by
        rw [hW.cell (p := ⟨gl, ol + j, none⟩) hgl, (hcell j hj).1, hli])
      have HXK := Lib.hid hx
      have HLJ := Lib.hid hbsj
      have HT := Lib.hid ht
      obtain ⟨R, hR⟩ : ∃ R, lfB f nl (j : Int) leaf p = R := ⟨_, rfl⟩
      have HSM := Lib.hid (show CSmall R from by rw [← hR]; exact lfB_small (by rw [hx.len]; omega) (fun x hxm => Nat.le_trans (hrs x hxm) (by omega)))
      unfold CSmall at HSM
      have CLE := Lib.hid (show ∀ W, Below w.heap.size w W → Calls Tryd.prog 12 #[.slice (some ⟨gl, ol, none⟩) nl cl, .int .i64 (j : Int), .slice Ax nx cx, .slice Ap np cp] W (ResPost W.heap.size R W) from fun W hW => by
        have := cleaf_any _ nl cl f (j : Int) Ax nx cx leaf Ap np cp p W (hrows.keep hW) hc hm (by omega) (fun k hk => by have := hsz k hk; omega) (hx.keep hW) (by omega) (hp.keep hW) hwf (ht.below hW)
        rw [hR] at this
        exact this)
      cases hV : fairB (j : Int) nl p with
      | false =>
        have hRn : R = none := by rw [← hR]; unfold lfB; rw [hV]; rfl
        subst hRn
        have HRS := Lib.hid (show (none : Option (List UInt8 × List UInt8)).isSome = false from rfl)
        have CC := Lib.hid (show ∀ W, Below w.heap.size w W → Calls Tryd.prog 17 #[sv d, .int .i64 (j : Int), .int .i64 (nl : Int), .slice Ap np cp] W fun e w' => e = .returned (.tuple #[sv [], .int .i64 6]) ∧ Below W.heap.size W w' from fun W hW => by
          refine climb_proof d j nl Ap np cp p W hd32 hj (by omega) (hp.keep hW) hwf ?_
          unfold fairB at hV
          rw [decide_eq_true (by omega : 0 ≤ (j : Int)), decide_eq_true (by omega : (j : Int) < (nl : Int)), Bool.true_and, Bool.true_and, Int.toNat_natCast, Bool.and_eq_false_iff, decide_eq_false_iff_not, hp.len] at hV
          exact hV.symm)
        clear hrows hx hp hwf ht hsz hR hV hcell hpc hbsj hX hd hRT hown hraw hli hlj hrs hrawl hX32 hd32 how32 hm hgl hXl
        go_enter Tryd.func4, Tryd.ntmps4
        go_wp2_with fail
        refine (G.out).mono ?_
        rintro e wz ⟨rfl, rfl⟩
        go_wp2_with fail
        refine (G6.out).mono ?_
        rintro e wz ⟨rfl, rfl⟩
        go_wp2_with fail
        refine (CD.out w (Below.refl w.heap.size w)).mono ?_
        rintro e w1 ⟨AD, nD, cD, rfl, ho1, hb1⟩
        have HB1 := Lib.hid (bt (Below.refl w.heap.size w) hb1)
        have hcapD := ho1.cap
        have hmaxD := ho1.max
        rw [maxLen_eq] at hmaxD
        have HD := Lib.hid (ho1.base (Below.refl w.heap.size w).size)
        clear hb1 ho1
        go_wp2_with fail
        refine (CLF.out w1 HB1.out).mono ?_
        rintro e w2 ⟨rfl, hb2⟩
        replace HD := Lib.hid (HD.out.keep hb2)
        have HB2 := Lib.hid (bt HB1.out hb2)
        clear hb2
        go_wp2_with fail
        refine (CC.out w2 HB2.out).mono ?_
        rintro e w3 ⟨rfl, hb3⟩
        replace HD := Lib.hid (HD.out.keep hb3)
        have HB3 := Lib.hid (bt HB2.out hb3)
        clear hb3
        go_wp2_with fail
        refine (CLE.out w3 HB3.out).mono ?_
        rintro e w4 ⟨AC, nC, cC, BC, mC, kC, rfl, hf1, hf2, hb4⟩
        rw [HRS.out]
        have hbx4 := bt hb4 ((Below.refl _ w4).alloc (Nat.le_refl _) (.cells #[.slice AC nC cC, .slice BC mC kC] 29))
        replace HD := Lib.hid (HD.out.keep hbx4)
        have HB4 := Lib.hid (bt HB3.out hbx4)
        have HC := Lib.hid (CBox.new hf1 hf2)
        clear hb4 hbx4 hf1 hf2
        obtain ⟨wy, hwy⟩ : ∃ wy, (w4.alloc (.cells #[.slice AC nC cC, .slice BC mC kC] 29)) = wy := ⟨_, rfl⟩
        rw [hwy] at HD HC HB4
        have HWY := Lib.hid hwy
        clear hwy
        have HXLy := Lib.hid (fun (W : World) (hW : Below wy.heap.size wy W) => HXL.out W (bt HB4.out hW))
        have HXy := Lib.hid (fun (W : World) (hW : Below wy.heap.size wy W) => HXK.out.keep (bt HB4.out hW))
        have HLJy := Lib.hid (fun (W : World) (hW : Below wy.heap.size wy W) => HLJ.out.keep (bt HB4.out hW))
        have CRTy := Lib.hid (fun (W : World) (hW : Below wy.heap.size wy W) => CRT.out AD nD cD W (HD.out.keep hW))
        unfold StrPost at CRTy
        go_wp2_with fail
        rw [HWY.out]
        refine Free.wp_free_l 18 (fun W => Below wy.heap.size wy W) [Free.kc (.int .i64 6), Free.kc (.bool false), Free.kc (.bool false), Free.kc (undef), Free.kc (undef), Free.kc (undef), Free.kc (undef), Free.kc (.bool false), Free.kc (.bool false), Free.kc (undef), Free.kc (undef), Free.kc (undef), Free.kc (undef), Free.kc (undef), Free.kc (undef), Free.kc (undef), Free.kc (undef), Free.kc (.bool false)] (by kernel_rfl) (by kernel_rfl) (by decide) (Below.refl _ _).drew (fun w w' h g => bt h g) ?_ ?_
        · refine Free.forall_succ (Free.forall_succ (Free.forall_succ (Free.forall_succ (Free.forall_succ (Free.forall_succ (Free.forall_succ (Free.forall_succ (Free.forall_succ (Free.forall_succ (Free.forall_succ (Free.forall_succ (Free.forall_succ (Free.forall_succ (Free.forall_succ (Free.forall_succ (Free.forall_succ (Free.forall_succ (Free.forall_zero) ?_) ?_) ?_) ?_) ?_) ?_) ?_) ?_) ?_) ?_) ?_) ?_) ?_) ?_) ?_) ?_) ?_) ?_
          · exact Free.ob_plain _ rfl rfl fun vals wq hC hd => (by exact Free.d_move rfl (by kernel_rfl) rfl)
          · exact Free.ob_plain _ rfl rfl fun vals wq hC hd => (by exact Free.d_bin rfl (Eq.trans (b := vals 0) (by kernel_rfl) (hd 0 (by kernel_rfl))) (show _ = (.int .i64 0 : Value) from rfl) (by go_simp) (by first | (go_simp; done) | (go_simp; rw [IntWalk.u32_in _ (by omega)]) | (go_simp; rw [IntWalk.i64_in _ (by omega)]) | (go_simp; rw [IntWalk.u8_in _ (by omega)]) | (go_simp; rw [IntKind.wrap_u32]; exact nv_add _ _)) rfl)
          · exact Free.ob_plain _ rfl rfl fun vals wq hC hd => (by exact Free.d_move rfl (Eq.trans (b := vals 1) (by kernel_rfl) (hd 1 (by kernel_rfl))) rfl)
          · exact Free.ob_skip _ rfl 2 62 true rfl rfl fun vals wq hC hd => ⟨.inl (Eq.trans (b := vals 2) (by kernel_rfl) (hd 2 (by kernel_rfl))), rfl⟩
          · exact Free.ob_skip _ rfl 2 62 true rfl rfl fun vals wq hC hd => ⟨.inl (Eq.trans (b := vals 2) (by kernel_rfl) (hd 2 (by kernel_rfl))), rfl⟩
          · exact Free.ob_skip _ rfl 2 62 true rfl rfl fun vals wq hC hd => ⟨.inl (Eq.trans (b := vals 2) (by kernel_rfl) (hd 2 (by kernel_rfl))), rfl⟩
          · exact Free.ob_skip _ rfl 2 62 true rfl rfl fun vals wq hC hd => ⟨.inl (Eq.trans (b := vals 2) (by kernel_rfl) (hd 2 (by kernel_rfl))), rfl⟩
          · exact Free.ob_plain _ rfl rfl fun vals wq hC hd => (by exact Free.d_pick rfl (Eq.trans (b := vals 2) (by kernel_rfl) (hd 2 (by kernel_rfl))) rfl rfl)
          · exact Free.ob_plain _ rfl rfl fun vals wq hC hd => (by exact Free.d_move rfl (Eq.trans (b := vals 7) (by kernel_rfl) (hd 7 (by kernel_rfl))) rfl)
          · exact Free.ob_skip _ rfl 8 68 true rfl rfl fun vals wq hC hd => ⟨.inl (Eq.trans (b := vals 8) (by kernel_rfl) (hd 8 (by kernel_rfl))), rfl⟩
          · exact Free.ob_skip _ rfl 8 68 true rfl rfl fun vals wq hC hd => ⟨.inl (Eq.trans (b := vals 8) (by kernel_rfl) (hd 8 (by kernel_rfl))), rfl⟩
          · exact Free.ob_skip _ rfl 8 68 true rfl rfl fun vals wq hC hd => ⟨.inl (Eq.trans (b := vals 8) (by kernel_rfl) (hd 8 (by kernel_rfl))), rfl⟩
          · exact Free.ob_skip _ rfl 8 68 true rfl rfl fun vals wq hC hd => ⟨.inl (Eq.trans (b := vals 8) (by kernel_rfl) (hd 8 (by kernel_rfl))), rfl⟩
          · exact Free.ob_skip _ rfl 8 68 true rfl rfl fun vals wq hC hd => ⟨.inl (Eq.trans (b := vals 8) (by kernel_rfl) (hd 8 (by kernel_rfl))), rfl⟩
          · exact Free.ob_skip _ rfl 8 68 true rfl rfl fun vals wq hC hd => ⟨.inl (Eq.trans (b := vals 8) (by kernel_rfl) (hd 8 (by kernel_rfl))), rfl⟩
          · exact Free.ob_skip _ rfl 8 68 true rfl rfl fun vals wq hC hd => ⟨.inl (Eq.trans (b := vals 8) (by kernel_rfl) (hd 8 (by kernel_rfl))), rfl⟩
          · exact Free.ob_skip _ rfl 8 68 true rfl rfl fun vals wq hC hd => ⟨.inl (Eq.trans (b := vals 8) (by kernel_rfl) (hd 8 (by kernel_rfl))), rfl⟩
          · exact Free.ob_plain _ rfl rfl fun vals wq hC hd => (by exact Free.d_pick rfl (Eq.trans (b := vals 8) (by kernel_rfl) (hd 8 (by kernel_rfl))) rfl rfl)
        · intro vals wq hC hd
          have e0 : vals 0 = (.int .i64 6) := hd 0 (by decide)
          have e1 : vals 1 = (.bool false) := hd 1 (by decide)
          have e2 : vals 2 = (.bool false) := hd 2 (by decide)
          have e3 : vals 3 = (undef) := hd 3 (by decide)
          have e4 : vals 4 = (undef) := hd 4 (by decide)
          have e5 : vals 5 = (undef) := hd 5 (by decide)
          have e6 : vals 6 = (undef) := hd 6 (by decide)
          have e7 : vals 7 = (.bool false) := hd 7 (by decide)
          have e8 : vals 8 = (.bool false) := hd 8 (by decide)
          have e9 : vals 9 = (undef) := hd 9 (by decide)
          have e10 : vals 10 = (undef) := hd 10 (by decide)
          have e11 : vals 11 = (undef) := hd 11 (by decide)
          have e12 : vals 12 = (undef) := hd 12 (by decide)
          have e13 : vals 13 = (undef) := hd 13 (by decide)
          have e14 : vals 14 = (undef) := hd 14 (by decide)
          have e15 : vals 15 = (undef) := hd 15 (by decide)
          have e16 : vals 16 = (undef) := hd 16 (by decide)
          have e17 : vals 17 = (.bool false) := hd 17 (by decide)
          simp only [Free.frameOf, List.range, List.range.loop, List.foldl, Free.dstOf, List.getElem?_toArray, List.getElem?_cons_zero, List.getElem?_cons_succ, Option.bind_some, Act.put, List.setIfInBounds_toArray, List.set_cons_zero, List.set_cons_succ, e0, e1, e2, e3, e4, e5, e6, e7, e8, e9, e10, e11, e12, e13, e14, e15, e16, e17]
          refine wpList_nil ?_
          clear hd e0 e1 e2 e3 e4 e5 e6 e7 e8 e9 e10 e11 e12 e13 e14 e15 e16 e17
          have HBY := Lib.hid (bt HB4.out hC)
          replace HD := Lib.hid (HD.out.keep hC)
          replace HC := Lib.hid (HC.out.keep hC)
          clear hC
          go_wp2_with fail
          refine (CP.out AD nD cD wq HBY.out HD.out).mono ?_
          rintro e w5 ⟨AP, nP, cP, rfl, ho5, hb5⟩
          replace HD := Lib.hid (HD.out.keep hb5)
          replace HC := Lib.hid (HC.out.keep hb5)
          have HB5 := Lib.hid (bt HBY.out hb5)
          have hcapP := ho5.cap
          have hmaxP := ho5.max
          rw [maxLen_eq] at hmaxP
          have HP := Lib.hid (ho5.base HBY.out.size)
          clear hb5 ho5
          have xl := HXL.out w5 HB5.out
          go_wp2_with fail
          refine (CL2.out AP nP cP w5 HB5.out HP.out).mono ?_
          rintro e w6 ⟨AE, nE, cE, BE, mE, kE, rfl, hf1, hf2, hb6⟩
          have hbx6 := bt hb6 ((Below.refl _ w6).alloc (Nat.le_refl _) (.cells #[.slice AE nE cE, .slice BE mE kE] 29))
          replace HD := Lib.hid (HD.out.keep hbx6)
          replace HC := Lib.hid (HC.out.keep hbx6)
          replace HP := Lib.hid (HP.out.keep hbx6)
          have HB6 := Lib.hid (bt HB5.out hbx6)
          have HE := Lib.hid (CBox.new hf1 hf2)
          clear hb6 hbx6 hf1 hf2
          clear xl
          go_wp2_with fail
          refine (KN.out (w6.alloc (.cells #[.slice AE nE cE, .slice BE mE kE] 29)) HB6.out).mono ?_
          rintro e w7 ⟨rfl, hb7⟩
          replace HD := Lib.hid (HD.out.keep hb7)
          replace HC := Lib.hid (HC.out.keep hb7)
          replace HP := Lib.hid (HP.out.keep hb7)
          replace HE := Lib.hid (HE.out.keep hb7)
          have HB7 := Lib.hid (bt HB6.out hb7)
          clear hb7
          go_wp2
          go_ret
          exact ⟨rfl, HB7.out⟩
      | true =>
        have hfb := hV
        unfold fairB at hfb
        rw [Bool.and_eq_true, Bool.and_eq_true, Bool.and_eq_true, decide_eq_true_eq, decide_eq_true_eq, decide_eq_true_eq] at hfb
        obtain ⟨-, -, h2, h3⟩ := hfb
        rw [Int.toNat_natCast] at h3
        obtain ⟨T, hTe⟩ : ∃ T, tclimb d j nl p = T := ⟨_, rfl⟩
        have CC := Lib.hid (show ∀ W, Below w.heap.size w W → Calls Tryd.prog 17 #[sv d, .int .i64 (j : Int), .int .i64 (nl : Int), .slice Ap np cp] W fun e w' => e = .returned (.tuple #[sv T, .int .i64 0]) ∧ Below W.heap.size W w' from fun W hW => by
          have := climb_yes d j nl Ap np cp p W hd32 hj (by omega) (hp.keep hW) (all32_of h2) (ht.below hW) (by rw [← hp.len]; exact h3)
          rw [hTe] at this
          exact this)
        have hfin : T = RT → ¬ leaf = lj → R.isSome = true := fun h4 h5 => by
          have := Cl.lf_finds leaf nl (raws f nl) p j (by rw [hrawl]; exact Nat.le_refl _) (by rw [hrawl]; exact hj) (all32_of h2) (by rw [hrawl]; exact h3) (by rw [hrawl, hd, ← raws_lv, hX, hRT, ← h4, ← hTe]) (by rw [hraw]; intro e; injection e with e; exact h5 e.symm)
          obtain ⟨r, hr⟩ := this
          rw [hrawl] at hr
          rw [← hR]
          unfold lfB
          rw [hV, if_pos rfl, Int.toNat_natCast, hr]; rfl
        clear hrows hx hp hwf ht hsz hR hV hcell hpc hbsj hX hd hRT hown hraw hli hlj hrs hrawl hX32 hd32 how32 hm hgl hXl hTe h2 h3
        by_cases ht1 : T = RT
        · have HTR := Lib.hid (decide_eq_true ht1)
          by_cases ht2 : leaf = lj
          · have HNE := Lib.hid (show (!decide (leaf = lj)) = false by rw [decide_eq_true ht2]; rfl)
            clear hfin ht1 ht2
            cases hRs : R.isSome with
            | false =>
              have HRS := Lib.hid hRs
              clear hRs
              go_enter Tryd.func4, Tryd.ntmps4
              go_wp2_with fail
              refine (G.out).mono ?_
              rintro e wz ⟨rfl, rfl⟩
              go_wp2_with fail
              refine (G6.out).mono ?_
              rintro e wz ⟨rfl, rfl⟩
              go_wp2_with fail
              refine (CD.out w (Below.refl w.heap.size w)).mono ?_
              rintro e w1 ⟨AD, nD, cD, rfl, ho1, hb1⟩
              have HB1 := Lib.hid (bt (Below.refl w.heap.size w) hb1)
              have hcapD := ho1.cap
              have hmaxD := ho1.max
              rw [maxLen_eq] at hmaxD
              have HD := Lib.hid (ho1.base (Below.refl w.heap.size w).size)
              clear hb1 ho1
              go_wp2_with fail
              refine (CLF.out w1 HB1.out).mono ?_
              rintro e w2 ⟨rfl, hb2⟩
              replace HD := Lib.hid (HD.out.keep hb2)
              have HB2 := Lib.hid (bt HB1.out hb2)
              clear hb2
              go_wp2_with fail
              refine (CC.out w2 HB2.out).mono ?_
              rintro e w3 ⟨rfl, hb3⟩
              replace HD := Lib.hid (HD.out.keep hb3)
              have HB3 := Lib.hid (bt HB2.out hb3)
              clear hb3
              go_wp2_with fail
              refine (CLE.out w3 HB3.out).mono ?_
              rintro e w4 ⟨AC, nC, cC, BC, mC, kC, rfl, hf1, hf2, hb4⟩
              rw [HRS.out]
              have hbx4 := bt hb4 ((Below.refl _ w4).alloc (Nat.le_refl _) (.cells #[.slice AC nC cC, .slice BC mC kC] 29))
              replace HD := Lib.hid (HD.out.keep hbx4)
              have HB4 := Lib.hid (bt HB3.out hbx4)
              have HC := Lib.hid (CBox.new hf1 hf2)
              clear hb4 hbx4 hf1 hf2
              obtain ⟨wy, hwy⟩ : ∃ wy, (w4.alloc (.cells #[.slice AC nC cC, .slice BC mC kC] 29)) = wy := ⟨_, rfl⟩
              rw [hwy] at HD HC HB4
              have HWY := Lib.hid hwy
              clear hwy
              have HXLy := Lib.hid (fun (W : World) (hW : Below wy.heap.size wy W) => HXL.out W (bt HB4.out hW))
              have HXy := Lib.hid (fun (W : World) (hW : Below wy.heap.size wy W) => HXK.out.keep (bt HB4.out hW))
              have HLJy := Lib.hid (fun (W : World) (hW : Below wy.heap.size wy W) => HLJ.out.keep (bt HB4.out hW))
              have CRTy := Lib.hid (fun (W : World) (hW : Below wy.heap.size wy W) => CRT.out AD nD cD W (HD.out.keep hW))
              unfold StrPost at CRTy
              go_wp2_with fail
              rw [HWY.out]
              refine Free.wp_free_l 18 (fun W => Below wy.heap.size wy W) [Free.kc (.int .i64 0), Free.kc (.bool true), Free.kc (.bool true), Free.kc (sv T), Free.kc (.slice AD nD cD), Free.kc (sv RT), Free.kc (.bool true), Free.kc (.bool true), Free.kc (.bool true), Free.kc (.slice Ax nx cx), Free.kc (sv leaf), Free.kc (.slice (some ⟨gl, ol, none⟩) nl cl), Free.kc (.int .i64 (j : Int)), Free.kc (.pointer (some ⟨gl, ol + j, none⟩)), Free.kc (.slice li.a li.n li.c), Free.kc (sv lj), Free.kc (.bool false), Free.kc (.bool false)] (by kernel_rfl) (by kernel_rfl) (by decide) (Below.refl _ _).drew (fun w w' h g => bt h g) ?_ ?_
              · refine Free.forall_succ (Free.forall_succ (Free.forall_succ (Free.forall_succ (Free.forall_succ (Free.forall_succ (Free.forall_succ (Free.forall_succ (Free.forall_succ (Free.forall_succ (Free.forall_succ (Free.forall_succ (Free.forall_succ (Free.forall_succ (Free.forall_succ (Free.forall_succ (Free.forall_succ (Free.forall_succ (Free.forall_zero) ?_) ?_) ?_) ?_) ?_) ?_) ?_) ?_) ?_) ?_) ?_) ?_) ?_) ?_) ?_) ?_) ?_) ?_
                · exact Free.ob_plain _ rfl rfl fun vals wq hC hd => (by exact Free.d_move rfl (by kernel_rfl) rfl)
                · exact Free.ob_plain _ rfl rfl fun vals wq hC hd => (by exact Free.d_bin rfl (Eq.trans (b := vals 0) (by kernel_rfl) (hd 0 (by kernel_rfl))) (show _ = (.int .i64 0 : Value) from rfl) (by go_simp) (by first | (go_simp; done) | (go_simp; rw [IntWalk.u32_in _ (by omega)]) | (go_simp; rw [IntWalk.i64_in _ (by omega)]) | (go_simp; rw [IntWalk.u8_in _ (by omega)]) | (go_simp; rw [IntKind.wrap_u32]; exact nv_add _ _)) rfl)
                · exact Free.ob_plain _ rfl rfl fun vals wq hC hd => (by exact Free.d_move rfl (Eq.trans (b := vals 1) (by kernel_rfl) (hd 1 (by kernel_rfl))) rfl)
                · exact Free.ob_guard _ rfl 2 62 true rfl rfl fun vals wq hC hd => ⟨Eq.trans (b := vals 2) (by kernel_rfl) (hd 2 (by kernel_rfl)), (by exact Free.d_move rfl (by kernel_rfl) rfl)⟩
                · exact Free.ob_guard _ rfl 2 62 true rfl rfl fun vals wq hC hd => ⟨Eq.trans (b := vals 2) (by kernel_rfl) (hd 2 (by kernel_rfl)), (by exact Free.d_move rfl (by kernel_rfl) rfl)⟩
                · exact Free.ob_guard _ rfl 2 62 true rfl rfl fun vals wq hC hd => ⟨Eq.trans (b := vals 2) (by kernel_rfl) (hd 2 (by kernel_rfl)), (by exact Free.d_call Tryd.func19 (by kernel_rfl) (by kernel_rfl) rfl rfl (Free.arg1 (Eq.trans (b := vals 4) (by kernel_rfl) (hd 4 (by kernel_rfl)))) ((CRTy.out wq hC).mono fun e w2 h => ⟨_, h.1, rfl, h.2⟩))⟩
                · exact Free.ob_guard _ rfl 2 62 true rfl rfl fun vals wq hC hd => ⟨Eq.trans (b := vals 2) (by kernel_rfl) (hd 2 (by kernel_rfl)), (by exact Free.d_bin rfl (Eq.trans (b := vals 3) (by kernel_rfl) (hd 3 (by kernel_rfl))) (Eq.trans (b := vals 5) (by kernel_rfl) (hd 5 (by kernel_rfl))) (by go_simp) (by rw [run_eql_str, HTR.out]) rfl)⟩
                · exact Free.ob_plain _ rfl rfl fun vals wq hC hd => (by exact Free.d_pick rfl (Eq.trans (b := vals 2) (by kernel_rfl) (hd 2 (by kernel_rfl))) (Eq.trans (b := vals 6) (by kernel_rfl) (hd 6 (by kernel_rfl))) rfl)
                · exact Free.ob_plain _ rfl rfl fun vals wq hC hd => (by exact Free.d_move rfl (Eq.trans (b := vals 7) (by kernel_rfl) (hd 7 (by kernel_rfl))) rfl)
                · exact Free.ob_guard _ rfl 8 68 true rfl rfl fun vals wq hC hd => ⟨Eq.trans (b := vals 8) (by kernel_rfl) (hd 8 (by kernel_rfl)), (by exact Free.d_move rfl (by kernel_rfl) rfl)⟩
                · exact Free.ob_guard _ rfl 8 68 true rfl rfl fun vals wq hC hd => ⟨Eq.trans (b := vals 8) (by kernel_rfl) (hd 8 (by kernel_rfl)), (by exact Free.d_conv rfl (Eq.trans (b := vals 9) (by kernel_rfl) (hd 9 (by kernel_rfl))) (run_str (P := Tryd.prog) 23 9 5 Tryd.underlying23 Tryd.underlying5 Tryd.underlying9 Ax _ _ _ leaf (HXy.out wq hC).rd (HXy.out wq hC).len) (Below.refl _ _) rfl)⟩
                · exact Free.ob_guard _ rfl 8 68 true rfl rfl fun vals wq hC hd => ⟨Eq.trans (b := vals 8) (by kernel_rfl) (hd 8 (by kernel_rfl)), (by exact Free.d_move rfl (by kernel_rfl) rfl)⟩
                · exact Free.ob_guard _ rfl 8 68 true rfl rfl fun vals wq hC hd => ⟨Eq.trans (b := vals 8) (by kernel_rfl) (hd 8 (by kernel_rfl)), (by exact Free.d_move rfl (by kernel_rfl) rfl)⟩
                · exact Free.ob_guard _ rfl 8 68 true rfl rfl fun vals wq hC hd => ⟨Eq.trans (b := vals 8) (by kernel_rfl) (hd 8 (by kernel_rfl)), (by exact Free.d_indexAddr rfl (Eq.trans (b := vals 11) (by kernel_rfl) (hd 11 (by kernel_rfl))) (Eq.trans (b := vals 12) (by kernel_rfl) (hd 12 (by kernel_rfl))) (run_idx 22 Tryd.underlying22 (by kernel_rfl) gl ol nl cl j _ rfl (by omega)) rfl)⟩
                · exact Free.ob_guard _ rfl 8 68 true rfl rfl fun vals wq hC hd => ⟨Eq.trans (b := vals 8) (by kernel_rfl) (hd 8 (by kernel_rfl)), (by exact Free.d_load rfl (Eq.trans (b := vals 13) (by kernel_rfl) (hd 13 (by kernel_rfl))) (by have hcc := HXLy.out wq hC; go_simp) rfl)⟩
                · exact Free.ob_guard _ rfl 8 68 true rfl rfl fun vals wq hC hd => ⟨Eq.trans (b := vals 8) (by kernel_rfl) (hd 8 (by kernel_rfl)), (by exact Free.d_conv rfl (Eq.trans (b := vals 14) (by kernel_rfl) (hd 14 (by kernel_rfl))) (run_str (P := Tryd.prog) 23 9 5 Tryd.underlying23 Tryd.underlying5 Tryd.underlying9 li.a _ _ _ lj (HLJy.out wq hC).rd (HLJy.out wq hC).len) (Below.refl _ _) rfl)⟩
                · exact Free.ob_guard _ rfl 8 68 true rfl rfl fun vals wq hC hd => ⟨Eq.trans (b := vals 8) (by kernel_rfl) (hd 8 (by kernel_rfl)), (by exact Free.d_bin rfl (Eq.trans (b := vals 10) (by kernel_rfl) (hd 10 (by kernel_rfl))) (Eq.trans (b := vals 15) (by kernel_rfl) (hd 15 (by kernel_rfl))) (by go_simp) (by rw [run_neq_str', HNE.out]) rfl)⟩
                · exact Free.ob_plain _ rfl rfl fun vals wq hC hd => (by exact Free.d_pick rfl (Eq.trans (b := vals 8) (by kernel_rfl) (hd 8 (by kernel_rfl))) (Eq.trans (b := vals 16) (by kernel_rfl) (hd 16 (by kernel_rfl))) rfl)
              · intro vals wq hC hd
                have e0 : vals 0 = (.int .i64 0) := hd 0 (by decide)
                have e1 : vals 1 = (.bool true) := hd 1 (by decide)
                have e2 : vals 2 = (.bool true) := hd 2 (by decide)
                have e3 : vals 3 = (sv T) := hd 3 (by decide)
                have e4 : vals 4 = (.slice AD nD cD) := hd 4 (by decide)
                have e5 : vals 5 = (sv RT) := hd 5 (by decide)
                have e6 : vals 6 = (.bool true) := hd 6 (by decide)
                have e7 : vals 7 = (.bool true) := hd 7 (by decide)
                have e8 : vals 8 = (.bool true) := hd 8 (by decide)
                have e9 : vals 9 = (.slice Ax nx cx) := hd 9 (by decide)
                have e10 : vals 10 = (sv leaf) := hd 10 (by decide)
                have e11 : vals 11 = (.slice (some ⟨gl, ol, none⟩) nl cl) := hd 11 (by decide)
                have e12 : vals 12 = (.int .i64 (j : Int)) := hd 12 (by decide)
                have e13 : vals 13 = (.pointer (some ⟨gl, ol + j, none⟩)) := hd 13 (by decide)
                have e14 : vals 14 = (.slice li.a li.n li.c) := hd 14 (by decide)
                have e15 : vals 15 = (sv lj) := hd 15 (by decide)
                have e16 : vals 16 = (.bool false) := hd 16 (by decide)
                have e17 : vals 17 = (.bool false) := hd 17 (by decide)
                simp only [Free.frameOf, List.range, List.range.loop, List.foldl, Free.dstOf, List.getElem?_toArray, List.getElem?_cons_zero, List.getElem?_cons_succ, Option.bind_some, Act.put, List.setIfInBounds_toArray, List.set_cons_zero, List.set_cons_succ, e0, e1, e2, e3, e4, e5, e6, e7, e8, e9, e10, e11, e12, e13, e14, e15, e16, e17]
                refine wpList_nil ?_
                clear hd e0 e1 e2 e3 e4 e5 e6 e7 e8 e9 e10 e11 e12 e13 e14 e15 e16 e17
                have HBY := Lib.hid (bt HB4.out hC)
                replace HD := Lib.hid (HD.out.keep hC)
                replace HC := Lib.hid (HC.out.keep hC)
                clear hC
                go_wp2_with fail
                refine (CP.out AD nD cD wq HBY.out HD.out).mono ?_
                rintro e w5 ⟨AP, nP, cP, rfl, ho5, hb5⟩
                replace HD := Lib.hid (HD.out.keep hb5)
                replace HC := Lib.hid (HC.out.keep hb5)
                have HB5 := Lib.hid (bt HBY.out hb5)
                have hcapP := ho5.cap
                have hmaxP := ho5.max
                rw [maxLen_eq] at hmaxP
                have HP := Lib.hid (ho5.base HBY.out.size)
                clear hb5 ho5
                have xl := HXL.out w5 HB5.out
                go_wp2_with fail
                refine (CL2.out AP nP cP w5 HB5.out HP.out).mono ?_
                rintro e w6 ⟨AE, nE, cE, BE, mE, kE, rfl, hf1, hf2, hb6⟩
                have hbx6 := bt hb6 ((Below.refl _ w6).alloc (Nat.le_refl _) (.cells #[.slice AE nE cE, .slice BE mE kE] 29))
                replace HD := Lib.hid (HD.out.keep hbx6)
                replace HC := Lib.hid (HC.out.keep hbx6)
                replace HP := Lib.hid (HP.out.keep hbx6)
                have HB6 := Lib.hid (bt HB5.out hbx6)
                have HE := Lib.hid (CBox.new hf1 hf2)
                clear hb6 hbx6 hf1 hf2
                clear xl
                go_wp2_with fail
                refine (KN.out (w6.alloc (.cells #[.slice AE nE cE, .slice BE mE kE] 29)) HB6.out).mono ?_
                rintro e w7 ⟨rfl, hb7⟩
                replace HD := Lib.hid (HD.out.keep hb7)
                replace HC := Lib.hid (HC.out.keep hb7)
                replace HP := Lib.hid (HP.out.keep hb7)
                replace HE := Lib.hid (HE.out.keep hb7)
                have HB7 := Lib.hid (bt HB6.out hb7)
                clear hb7
                go_wp2
                go_ret
                exact ⟨rfl, HB7.out⟩
            | true =>
              obtain ⟨r0, rfl⟩ := Option.isSome_iff_exists.1 hRs
              have HRS := Lib.hid hRs
              clear hRs
              go_enter Tryd.func4, Tryd.ntmps4
              go_wp2_with fail
              refine (G.out).mono ?_
              rintro e wz ⟨rfl, rfl⟩
              go_wp2_with fail
              refine (G6.out).mono ?_
              rintro e wz ⟨rfl, rfl⟩
              go_wp2_with fail
              refine (CD.out w (Below.refl w.heap.size w)).mono ?_
              rintro e w1 ⟨AD, nD, cD, rfl, ho1, hb1⟩
              have HB1 := Lib.hid (bt (Below.refl w.heap.size w) hb1)
              have hcapD := ho1.cap
              have hmaxD := ho1.max
              rw [maxLen_eq] at hmaxD
              have HD := Lib.hid (ho1.base (Below.refl w.heap.size w).size)
              clear hb1 ho1
              go_wp2_with fail
              refine (CLF.out w1 HB1.out).mono ?_
              rintro e w2 ⟨rfl, hb2⟩
              replace HD := Lib.hid (HD.out.keep hb2)
              have HB2 := Lib.hid (bt HB1.out hb2)
              clear hb2
              go_wp2_with fail
              refine (CC.out w2 HB2.out).mono ?_
              rintro e w3 ⟨rfl, hb3⟩
              replace HD := Lib.hid (HD.out.keep hb3)
              have HB3 := Lib.hid (bt HB2.out hb3)
              clear hb3
              go_wp2_with fail
              refine (CLE.out w3 HB3.out).mono ?_
              rintro e w4 ⟨AC, nC, cC, BC, mC, kC, rfl, hf1, hf2, hb4⟩
              rw [HRS.out]
              have hbx4 := bt hb4 ((Below.refl _ w4).alloc (Nat.le_refl _) (.cells #[.slice AC nC cC, .slice BC mC kC] 29))
              replace HD := Lib.hid (HD.out.keep hbx4)
              have HB4 := Lib.hid (bt HB3.out hbx4)
              have HC := Lib.hid (CBox.new hf1 hf2)
              clear hb4 hbx4 hf1 hf2
              obtain ⟨wy, hwy⟩ : ∃ wy, (w4.alloc (.cells #[.slice AC nC cC, .slice BC mC kC] 29)) = wy := ⟨_, rfl⟩
              rw [hwy] at HD HC HB4
              have HWY := Lib.hid hwy
              clear hwy
              have HXLy := Lib.hid (fun (W : World) (hW : Below wy.heap.size wy W) => HXL.out W (bt HB4.out hW))
              have HXy := Lib.hid (fun (W : World) (hW : Below wy.heap.size wy W) => HXK.out.keep (bt HB4.out hW))
              have HLJy := Lib.hid (fun (W : World) (hW : Below wy.heap.size wy W) => HLJ.out.keep (bt HB4.out hW))
              have CRTy := Lib.hid (fun (W : World) (hW : Below wy.heap.size wy W) => CRT.out AD nD cD W (HD.out.keep hW))
              unfold StrPost at CRTy
              go_wp2_with fail
              rw [HWY.out]
              refine Free.wp_free_l 18 (fun W => Below wy.heap.size wy W) [Free.kc (.int .i64 0), Free.kc (.bool true), Free.kc (.bool true), Free.kc (sv T), Free.kc (.slice AD nD cD), Free.kc (sv RT), Free.kc (.bool true), Free.kc (.bool true), Free.kc (.bool true), Free.kc (.slice Ax nx cx), Free.kc (sv leaf), Free.kc (.slice (some ⟨gl, ol, none⟩) nl cl), Free.kc (.int .i64 (j : Int)), Free.kc (.pointer (some ⟨gl, ol + j, none⟩)), Free.kc (.slice li.a li.n li.c), Free.kc (sv lj), Free.kc (.bool false), Free.kc (.bool false)] (by kernel_rfl) (by kernel_rfl) (by decide) (Below.refl _ _).drew (fun w w' h g => bt h g) ?_ ?_
              · refine Free.forall_succ (Free.forall_succ (Free.forall_succ (Free.forall_succ (Free.forall_succ (Free.forall_succ (Free.forall_succ (Free.forall_succ (Free.forall_succ (Free.forall_succ (Free.forall_succ (Free.forall_succ (Free.forall_succ (Free.forall_succ (Free.forall_succ (Free.forall_succ (Free.forall_succ (Free.forall_succ (Free.forall_zero) ?_) ?_) ?_) ?_) ?_) ?_) ?_) ?_) ?_) ?_) ?_) ?_) ?_) ?_) ?_) ?_) ?_) ?_
                · exact Free.ob_plain _ rfl rfl fun vals wq hC hd => (by exact Free.d_move rfl (by kernel_rfl) rfl)
                · exact Free.ob_plain _ rfl rfl fun vals wq hC hd => (by exact Free.d_bin rfl (Eq.trans (b := vals 0) (by kernel_rfl) (hd 0 (by kernel_rfl))) (show _ = (.int .i64 0 : Value) from rfl) (by go_simp) (by first | (go_simp; done) | (go_simp; rw [IntWalk.u32_in _ (by omega)]) | (go_simp; rw [IntWalk.i64_in _ (by omega)]) | (go_simp; rw [IntWalk.u8_in _ (by omega)]) | (go_simp; rw [IntKind.wrap_u32]; exact nv_add _ _)) rfl)
                · exact Free.ob_plain _ rfl rfl fun vals wq hC hd => (by exact Free.d_move rfl (Eq.trans (b := vals 1) (by kernel_rfl) (hd 1 (by kernel_rfl))) rfl)
                · exact Free.ob_guard _ rfl 2 62 true rfl rfl fun vals wq hC hd => ⟨Eq.trans (b := vals 2) (by kernel_rfl) (hd 2 (by kernel_rfl)), (by exact Free.d_move rfl (by kernel_rfl) rfl)⟩
                · exact Free.ob_guard _ rfl 2 62 true rfl rfl fun vals wq hC hd => ⟨Eq.trans (b := vals 2) (by kernel_rfl) (hd 2 (by kernel_rfl)), (by exact Free.d_move rfl (by kernel_rfl) rfl)⟩
                · exact Free.ob_guard _ rfl 2 62 true rfl rfl fun vals wq hC hd => ⟨Eq.trans (b := vals 2) (by kernel_rfl) (hd 2 (by kernel_rfl)), (by exact Free.d_call Tryd.func19 (by kernel_rfl) (by kernel_rfl) rfl rfl (Free.arg1 (Eq.trans (b := vals 4) (by kernel_rfl) (hd 4 (by kernel_rfl)))) ((CRTy.out wq hC).mono fun e w2 h => ⟨_, h.1, rfl, h.2⟩))⟩
                · exact Free.ob_guard _ rfl 2 62 true rfl rfl fun vals wq hC hd => ⟨Eq.trans (b := vals 2) (by kernel_rfl) (hd 2 (by kernel_rfl)), (by exact Free.d_bin rfl (Eq.trans (b := vals 3) (by kernel_rfl) (hd 3 (by kernel_rfl))) (Eq.trans (b := vals 5) (by kernel_rfl) (hd 5 (by kernel_rfl))) (by go_simp) (by rw [run_eql_str, HTR.out]) rfl)⟩
                · exact Free.ob_plain _ rfl rfl fun vals wq hC hd => (by exact Free.d_pick rfl (Eq.trans (b := vals 2) (by kernel_rfl) (hd 2 (by kernel_rfl))) (Eq.trans (b := vals 6) (by kernel_rfl) (hd 6 (by kernel_rfl))) rfl)
                · exact Free.ob_plain _ rfl rfl fun vals wq hC hd => (by exact Free.d_move rfl (Eq.trans (b := vals 7) (by kernel_rfl) (hd 7 (by kernel_rfl))) rfl)
                · exact Free.ob_guard _ rfl 8 68 true rfl rfl fun vals wq hC hd => ⟨Eq.trans (b := vals 8) (by kernel_rfl) (hd 8 (by kernel_rfl)), (by exact Free.d_move rfl (by kernel_rfl) rfl)⟩
                · exact Free.ob_guard _ rfl 8 68 true rfl rfl fun vals wq hC hd => ⟨Eq.trans (b := vals 8) (by kernel_rfl) (hd 8 (by kernel_rfl)), (by exact Free.d_conv rfl (Eq.trans (b := vals 9) (by kernel_rfl) (hd 9 (by kernel_rfl))) (run_str (P := Tryd.prog) 23 9 5 Tryd.underlying23 Tryd.underlying5 Tryd.underlying9 Ax _ _ _ leaf (HXy.out wq hC).rd (HXy.out wq hC).len) (Below.refl _ _) rfl)⟩
                · exact Free.ob_guard _ rfl 8 68 true rfl rfl fun vals wq hC hd => ⟨Eq.trans (b := vals 8) (by kernel_rfl) (hd 8 (by kernel_rfl)), (by exact Free.d_move rfl (by kernel_rfl) rfl)⟩
                · exact Free.ob_guard _ rfl 8 68 true rfl rfl fun vals wq hC hd => ⟨Eq.trans (b := vals 8) (by kernel_rfl) (hd 8 (by kernel_rfl)), (by exact Free.d_move rfl (by kernel_rfl) rfl)⟩
                · exact Free.ob_guard _ rfl 8 68 true rfl rfl fun vals wq hC hd => ⟨Eq.trans (b := vals 8) (by kernel_rfl) (hd 8 (by kernel_rfl)), (by exact Free.d_indexAddr rfl (Eq.trans (b := vals 11) (by kernel_rfl) (hd 11 (by kernel_rfl))) (Eq.trans (b := vals 12) (by kernel_rfl) (hd 12 (by kernel_rfl))) (run_idx 22 Tryd.underlying22 (by kernel_rfl) gl ol nl cl j _ rfl (by omega)) rfl)⟩
                · exact Free.ob_guard _ rfl 8 68 true rfl rfl fun vals wq hC hd => ⟨Eq.trans (b := vals 8) (by kernel_rfl) (hd 8 (by kernel_rfl)), (by exact Free.d_load rfl (Eq.trans (b := vals 13) (by kernel_rfl) (hd 13 (by kernel_rfl))) (by have hcc := HXLy.out wq hC; go_simp) rfl)⟩
                · exact Free.ob_guard _ rfl 8 68 true rfl rfl fun vals wq hC hd => ⟨Eq.trans (b := vals 8) (by kernel_rfl) (hd 8 (by kernel_rfl)), (by exact Free.d_conv rfl (Eq.trans (b := vals 14) (by kernel_rfl) (hd 14 (by kernel_rfl))) (run_str (P := Tryd.prog) 23 9 5 Tryd.underlying23 Tryd.underlying5 Tryd.underlying9 li.a _ _ _ lj (HLJy.out wq hC).rd (HLJy.out wq hC).len) (Below.refl _ _) rfl)⟩
                · exact Free.ob_guard _ rfl 8 68 true rfl rfl fun vals wq hC hd => ⟨Eq.trans (b := vals 8) (by kernel_rfl) (hd 8 (by kernel_rfl)), (by exact Free.d_bin rfl (Eq.trans (b := vals 10) (by kernel_rfl) (hd 10 (by kernel_rfl))) (Eq.trans (b := vals 15) (by kernel_rfl) (hd 15 (by kernel_rfl))) (by go_simp) (by rw [run_neq_str', HNE.out]) rfl)⟩
                · exact Free.ob_plain _ rfl rfl fun vals wq hC hd => (by exact Free.d_pick rfl (Eq.trans (b := vals 8) (by kernel_rfl) (hd 8 (by kernel_rfl))) (Eq.trans (b := vals 16) (by kernel_rfl) (hd 16 (by kernel_rfl))) rfl)
              · intro vals wq hC hd
                have e0 : vals 0 = (.int .i64 0) := hd 0 (by decide)
                have e1 : vals 1 = (.bool true) := hd 1 (by decide)
                have e2 : vals 2 = (.bool true) := hd 2 (by decide)
                have e3 : vals 3 = (sv T) := hd 3 (by decide)
                have e4 : vals 4 = (.slice AD nD cD) := hd 4 (by decide)
                have e5 : vals 5 = (sv RT) := hd 5 (by decide)
                have e6 : vals 6 = (.bool true) := hd 6 (by decide)
                have e7 : vals 7 = (.bool true) := hd 7 (by decide)
                have e8 : vals 8 = (.bool true) := hd 8 (by decide)
                have e9 : vals 9 = (.slice Ax nx cx) := hd 9 (by decide)
                have e10 : vals 10 = (sv leaf) := hd 10 (by decide)
                have e11 : vals 11 = (.slice (some ⟨gl, ol, none⟩) nl cl) := hd 11 (by decide)
                have e12 : vals 12 = (.int .i64 (j : Int)) := hd 12 (by decide)
                have e13 : vals 13 = (.pointer (some ⟨gl, ol + j, none⟩)) := hd 13 (by decide)
                have e14 : vals 14 = (.slice li.a li.n li.c) := hd 14 (by decide)
                have e15 : vals 15 = (sv lj) := hd 15 (by decide)
                have e16 : vals 16 = (.bool false) := hd 16 (by decide)
                have e17 : vals 17 = (.bool false) := hd 17 (by decide)
                simp only [Free.frameOf, List.range, List.range.loop, List.foldl, Free.dstOf, List.getElem?_toArray, List.getElem?_cons_zero, List.getElem?_cons_succ, Option.bind_some, Act.put, List.setIfInBounds_toArray, List.set_cons_zero, List.set_cons_succ, e0, e1, e2, e3, e4, e5, e6, e7, e8, e9, e10, e11, e12, e13, e14, e15, e16, e17]
                refine wpList_nil ?_
                clear hd e0 e1 e2 e3 e4 e5 e6 e7 e8 e9 e10 e11 e12 e13 e14 e15 e16 e17
                have HBY := Lib.hid (bt HB4.out hC)
                replace HD := Lib.hid (HD.out.keep hC)
                replace HC := Lib.hid (HC.out.keep hC)
                clear hC
                go_wp2_with fail
                refine (CP.out AD nD cD wq HBY.out HD.out).mono ?_
                rintro e w5 ⟨AP, nP, cP, rfl, ho5, hb5⟩
                replace HD := Lib.hid (HD.out.keep hb5)
                replace HC := Lib.hid (HC.out.keep hb5)
                have HB5 := Lib.hid (bt HBY.out hb5)
                have hcapP := ho5.cap
                have hmaxP := ho5.max
                rw [maxLen_eq] at hmaxP
                have HP := Lib.hid (ho5.base HBY.out.size)
                clear hb5 ho5
                have xl := HXL.out w5 HB5.out
                go_wp2_with fail
                refine (CL2.out AP nP cP w5 HB5.out HP.out).mono ?_
                rintro e w6 ⟨AE, nE, cE, BE, mE, kE, rfl, hf1, hf2, hb6⟩
                have hbx6 := bt hb6 ((Below.refl _ w6).alloc (Nat.le_refl _) (.cells #[.slice AE nE cE, .slice BE mE kE] 29))
                replace HD := Lib.hid (HD.out.keep hbx6)
                replace HC := Lib.hid (HC.out.keep hbx6)
                replace HP := Lib.hid (HP.out.keep hbx6)
                have HB6 := Lib.hid (bt HB5.out hbx6)
                have HE := Lib.hid (CBox.new hf1 hf2)
                clear hb6 hbx6 hf1 hf2
                clear xl
                have x0 := HC.out.x0
                have x1 := HC.out.x1
                go_wp2_with fail
                refine (HC.out.is rfl HSM.out (HT.out.below HB6.out)).mono ?_
                rintro e w7 ⟨rfl, hb7⟩
                replace HD := Lib.hid (HD.out.keep hb7)
                replace HC := Lib.hid (HC.out.keep hb7)
                replace HP := Lib.hid (HP.out.keep hb7)
                replace HE := Lib.hid (HE.out.keep hb7)
                have HB7 := Lib.hid (bt HB6.out hb7)
                clear hb7
                clear x0 x1
                go_wp2_with fail
                refine (KN.out w7 HB7.out).mono ?_
                rintro e w8 ⟨rfl, hb8⟩
                replace HD := Lib.hid (HD.out.keep hb8)
                replace HC := Lib.hid (HC.out.keep hb8)
                replace HP := Lib.hid (HP.out.keep hb8)
                replace HE := Lib.hid (HE.out.keep hb8)
                have HB8 := Lib.hid (bt HB7.out hb8)
                clear hb8
                go_wp2
                go_ret
                exact ⟨rfl, HB8.out⟩
          · have HNE := Lib.hid (show (!decide (leaf = lj)) = true by rw [decide_eq_false ht2]; rfl)
            have HRS := Lib.hid (hfin ht1 ht2)
            clear hfin ht1 ht2
            go_enter Tryd.func4, Tryd.ntmps4
            go_wp2_with fail
            refine (G.out).mono ?_
            rintro e wz ⟨rfl, rfl⟩
            go_wp2_with fail
            refine (G6.out).mono ?_
            rintro e wz ⟨rfl, rfl⟩
            go_wp2_with fail
            refine (CD.out w (Below.refl w.heap.size w)).mono ?_
            rintro e w1 ⟨AD, nD, cD, rfl, ho1, hb1⟩
            have HB1 := Lib.hid (bt (Below.refl w.heap.size w) hb1)
            have hcapD := ho1.cap
            have hmaxD := ho1.max
            rw [maxLen_eq] at hmaxD
            have HD := Lib.hid (ho1.base (Below.refl w.heap.size w).size)
            clear hb1 ho1
            go_wp2_with fail
            refine (CLF.out w1 HB1.out).mono ?_
            rintro e w2 ⟨rfl, hb2⟩
            replace HD := Lib.hid (HD.out.keep hb2)
            have HB2 := Lib.hid (bt HB1.out hb2)
            clear hb2
            go_wp2_with fail
            refine (CC.out w2 HB2.out).mono ?_
            rintro e w3 ⟨rfl, hb3⟩
            replace HD := Lib.hid (HD.out.keep hb3)
            have HB3 := Lib.hid (bt HB2.out hb3)
            clear hb3
            go_wp2_with fail
            refine (CLE.out w3 HB3.out).mono ?_
            rintro e w4 ⟨AC, nC, cC, BC, mC, kC, rfl, hf1, hf2, hb4⟩
            rw [HRS.out]
            have hbx4 := bt hb4 ((Below.refl _ w4).alloc (Nat.le_refl _) (.cells #[.slice AC nC cC, .slice BC mC kC] 29))
            replace HD := Lib.hid (HD.out.keep hbx4)
            have HB4 := Lib.hid (bt HB3.out hbx4)
            have HC := Lib.hid (CBox.new hf1 hf2)
            clear hb4 hbx4 hf1 hf2
            obtain ⟨wy, hwy⟩ : ∃ wy, (w4.alloc (.cells #[.slice AC nC cC, .slice BC mC kC] 29)) = wy := ⟨_, rfl⟩
            rw [hwy] at HD HC HB4
            have HWY := Lib.hid hwy
            clear hwy
            have HXLy := Lib.hid (fun (W : World) (hW : Below wy.heap.size wy W) => HXL.out W (bt HB4.out hW))
            have HXy := Lib.hid (fun (W : World) (hW : Below wy.heap.size wy W) => HXK.out.keep (bt HB4.out hW))
            have HLJy := Lib.hid (fun (W : World) (hW : Below wy.heap.size wy W) => HLJ.out.keep (bt HB4.out hW))
            have CRTy := Lib.hid (fun (W : World) (hW : Below wy.heap.size wy W) => CRT.out AD nD cD W (HD.out.keep hW))
            unfold StrPost at CRTy
            go_wp2_with fail
            rw [HWY.out]
            refine Free.wp_free_l 18 (fun W => Below wy.heap.size wy W) [Free.kc (.int .i64 0), Free.kc (.bool true), Free.kc (.bool true), Free.kc (sv T), Free.kc (.slice AD nD cD), Free.kc (sv RT), Free.kc (.bool true), Free.kc (.bool true), Free.kc (.bool true), Free.kc (.slice Ax nx cx), Free.kc (sv leaf), Free.kc (.slice (some ⟨gl, ol, none⟩) nl cl), Free.kc (.int .i64 (j : Int)), Free.kc (.pointer (some ⟨gl, ol + j, none⟩)), Free.kc (.slice li.a li.n li.c), Free.kc (sv lj), Free.kc (.bool true), Free.kc (.bool true)] (by kernel_rfl) (by kernel_rfl) (by decide) (Below.refl _ _).drew (fun w w' h g => bt h g) ?_ ?_
            · refine Free.forall_succ (Free.forall_succ (Free.forall_succ (Free.forall_succ (Free.forall_succ (Free.forall_succ (Free.forall_succ (Free.forall_succ (Free.forall_succ (Free.forall_succ (Free.forall_succ (Free.forall_succ (Free.forall_succ (Free.forall_succ (Free.forall_succ (Free.forall_succ (Free.forall_succ (Free.forall_succ (Free.forall_zero) ?_) ?_) ?_) ?_) ?_) ?_) ?_) ?_) ?_) ?_) ?_) ?_) ?_) ?_) ?_) ?_) ?_) ?_
              · exact Free.ob_plain _ rfl rfl fun vals wq hC hd => (by exact Free.d_move rfl (by kernel_rfl) rfl)
              · exact Free.ob_plain _ rfl rfl fun vals wq hC hd => (by exact Free.d_bin rfl (Eq.trans (b := vals 0) (by kernel_rfl) (hd 0 (by kernel_rfl))) (show _ = (.int .i64 0 : Value) from rfl) (by go_simp) (by first | (go_simp; done) | (go_simp; rw [IntWalk.u32_in _ (by omega)]) | (go_simp; rw [IntWalk.i64_in _ (by omega)]) | (go_simp; rw [IntWalk.u8_in _ (by omega)]) | (go_simp; rw [IntKind.wrap_u32]; exact nv_add _ _)) rfl)
              · exact Free.ob_plain _ rfl rfl fun vals wq hC hd => (by exact Free.d_move rfl (Eq.trans (b := vals 1) (by kernel_rfl) (hd 1 (by kernel_rfl))) rfl)
              · exact Free.ob_guard _ rfl 2 62 true rfl rfl fun vals wq hC hd => ⟨Eq.trans (b := vals 2) (by kernel_rfl) (hd 2 (by kernel_rfl)), (by exact Free.d_move rfl (by kernel_rfl) rfl)⟩
              · exact Free.ob_guard _ rfl 2 62 true rfl rfl fun vals wq hC hd => ⟨Eq.trans (b := vals 2) (by kernel_rfl) (hd 2 (by kernel_rfl)), (by exact Free.d_move rfl (by kernel_rfl) rfl)⟩
              · exact Free.ob_guard _ rfl 2 62 true rfl rfl fun vals wq hC hd => ⟨Eq.trans (b := vals 2) (by kernel_rfl) (hd 2 (by kernel_rfl)), (by exact Free.d_call Tryd.func19 (by kernel_rfl) (by kernel_rfl) rfl rfl (Free.arg1 (Eq.trans (b := vals 4) (by kernel_rfl) (hd 4 (by kernel_rfl)))) ((CRTy.out wq hC).mono fun e w2 h => ⟨_, h.1, rfl, h.2⟩))⟩
              · exact Free.ob_guard _ rfl 2 62 true rfl rfl fun vals wq hC hd => ⟨Eq.trans (b := vals 2) (by kernel_rfl) (hd 2 (by kernel_rfl)), (by exact Free.d_bin rfl (Eq.trans (b := vals 3) (by kernel_rfl) (hd 3 (by kernel_rfl))) (Eq.trans (b := vals 5) (by kernel_rfl) (hd 5 (by kernel_rfl))) (by go_simp) (by rw [run_eql_str, HTR.out]) rfl)⟩
              · exact Free.ob_plain _ rfl rfl fun vals wq hC hd => (by exact Free.d_pick rfl (Eq.trans (b := vals 2) (by kernel_rfl) (hd 2 (by kernel_rfl))) (Eq.trans (b := vals 6) (by kernel_rfl) (hd 6 (by kernel_rfl))) rfl)
              · exact Free.ob_plain _ rfl rfl fun vals wq hC hd => (by exact Free.d_move rfl (Eq.trans (b := vals 7) (by kernel_rfl) (hd 7 (by kernel_rfl))) rfl)
              · exact Free.ob_guard _ rfl 8 68 true rfl rfl fun vals wq hC hd => ⟨Eq.trans (b := vals 8) (by kernel_rfl) (hd 8 (by kernel_rfl)), (by exact Free.d_move rfl (by kernel_rfl) rfl)⟩
              · exact Free.ob_guard _ rfl 8 68 true rfl rfl fun vals wq hC hd => ⟨Eq.trans (b := vals 8) (by kernel_rfl) (hd 8 (by kernel_rfl)), (by exact Free.d_conv rfl (Eq.trans (b := vals 9) (by kernel_rfl) (hd 9 (by kernel_rfl))) (run_str (P := Tryd.prog) 23 9 5 Tryd.underlying23 Tryd.underlying5 Tryd.underlying9 Ax _ _ _ leaf (HXy.out wq hC).rd (HXy.out wq hC).len) (Below.refl _ _) rfl)⟩
              · exact Free.ob_guard _ rfl 8 68 true rfl rfl fun vals wq hC hd => ⟨Eq.trans (b := vals 8) (by kernel_rfl) (hd 8 (by kernel_rfl)), (by exact Free.d_move rfl (by kernel_rfl) rfl)⟩
              · exact Free.ob_guard _ rfl 8 68 true rfl rfl fun vals wq hC hd => ⟨Eq.trans (b := vals 8) (by kernel_rfl) (hd 8 (by kernel_rfl)), (by exact Free.d_move rfl (by kernel_rfl) rfl)⟩
              · exact Free.ob_guard _ rfl 8 68 true rfl rfl fun vals wq hC hd => ⟨Eq.trans (b := vals 8) (by kernel_rfl) (hd 8 (by kernel_rfl)), (by exact Free.d_indexAddr rfl (Eq.trans (b := vals 11) (by kernel_rfl) (hd 11 (by kernel_rfl))) (Eq.trans (b := vals 12) (by kernel_rfl) (hd 12 (by kernel_rfl))) (run_idx 22 Tryd.underlying22 (by kernel_rfl) gl ol nl cl j _ rfl (by omega)) rfl)⟩
              · exact Free.ob_guard _ rfl 8 68 true rfl rfl fun vals wq hC hd => ⟨Eq.trans (b := vals 8) (by kernel_rfl) (hd 8 (by kernel_rfl)), (by exact Free.d_load rfl (Eq.trans (b := vals 13) (by kernel_rfl) (hd 13 (by kernel_rfl))) (by have hcc := HXLy.out wq hC; go_simp) rfl)⟩
              · exact Free.ob_guard _ rfl 8 68 true rfl rfl fun vals wq hC hd => ⟨Eq.trans (b := vals 8) (by kernel_rfl) (hd 8 (by kernel_rfl)), (by exact Free.d_conv rfl (Eq.trans (b := vals 14) (by kernel_rfl) (hd 14 (by kernel_rfl))) (run_str (P := Tryd.prog) 23 9 5 Tryd.underlying23 Tryd.underlying5 Tryd.underlying9 li.a _ _ _ lj (HLJy.out wq hC).rd (HLJy.out wq hC).len) (Below.refl _ _) rfl)⟩
              · exact Free.ob_guard _ rfl 8 68 true rfl rfl fun vals wq hC hd => ⟨Eq.trans (b := vals 8) (by kernel_rfl) (hd 8 (by kernel_rfl)), (by exact Free.d_bin rfl (Eq.trans (b := vals 10) (by kernel_rfl) (hd 10 (by kernel_rfl))) (Eq.trans (b := vals 15) (by kernel_rfl) (hd 15 (by kernel_rfl))) (by go_simp) (by rw [run_neq_str', HNE.out]) rfl)⟩
              · exact Free.ob_plain _ rfl rfl fun vals wq hC hd => (by exact Free.d_pick rfl (Eq.trans (b := vals 8) (by kernel_rfl) (hd 8 (by kernel_rfl))) (Eq.trans (b := vals 16) (by kernel_rfl) (hd 16 (by kernel_rfl))) rfl)
            · intro vals wq hC hd
              have e0 : vals 0 = (.int .i64 0) := hd 0 (by decide)
              have e1 : vals 1 = (.bool true) := hd 1 (by decide)
              have e2 : vals 2 = (.bool true) := hd 2 (by decide)
              have e3 : vals 3 = (sv T) := hd 3 (by decide)
              have e4 : vals 4 = (.slice AD nD cD) := hd 4 (by decide)
              have e5 : vals 5 = (sv RT) := hd 5 (by decide)
              have e6 : vals 6 = (.bool true) := hd 6 (by decide)
              have e7 : vals 7 = (.bool true) := hd 7 (by decide)
              have e8 : vals 8 = (.bool true) := hd 8 (by decide)
              have e9 : vals 9 = (.slice Ax nx cx) := hd 9 (by decide)
              have e10 : vals 10 = (sv leaf) := hd 10 (by decide)
              have e11 : vals 11 = (.slice (some ⟨gl, ol, none⟩) nl cl) := hd 11 (by decide)
              have e12 : vals 12 = (.int .i64 (j : Int)) := hd 12 (by decide)
              have e13 : vals 13 = (.pointer (some ⟨gl, ol + j, none⟩)) := hd 13 (by decide)
              have e14 : vals 14 = (.slice li.a li.n li.c) := hd 14 (by decide)
              have e15 : vals 15 = (sv lj) := hd 15 (by decide)
              have e16 : vals 16 = (.bool true) := hd 16 (by decide)
              have e17 : vals 17 = (.bool true) := hd 17 (by decide)
              simp only [Free.frameOf, List.range, List.range.loop, List.foldl, Free.dstOf, List.getElem?_toArray, List.getElem?_cons_zero, List.getElem?_cons_succ, Option.bind_some, Act.put, List.setIfInBounds_toArray, List.set_cons_zero, List.set_cons_succ, e0, e1, e2, e3, e4, e5, e6, e7, e8, e9, e10, e11, e12, e13, e14, e15, e16, e17]
              refine wpList_nil ?_
              clear hd e0 e1 e2 e3 e4 e5 e6 e7 e8 e9 e10 e11 e12 e13 e14 e15 e16 e17
              have HBY := Lib.hid (bt HB4.out hC)
              replace HD := Lib.hid (HD.out.keep hC)
              replace HC := Lib.hid (HC.out.keep hC)
              clear hC
              have x0 := HC.out.x0
              have x1 := HC.out.x1
              go_wp2_with fail
              refine (HC.out.is HRS.out HSM.out (HT.out.below HBY.out)).mono ?_
              rintro e w5 ⟨rfl, hb5⟩
              replace HD := Lib.hid (HD.out.keep hb5)
              replace HC := Lib.hid (HC.out.keep hb5)
              have HB5 := Lib.hid (bt HBY.out hb5)
              clear hb5
              clear x0 x1
              go_wp2_with fail
              refine (KN.out w5 HB5.out).mono ?_
              rintro e w6 ⟨rfl, hb6⟩
              replace HD := Lib.hid (HD.out.keep hb6)
              replace HC := Lib.hid (HC.out.keep hb6)
              have HB6 := Lib.hid (bt HB5.out hb6)
              clear hb6
              go_wp2
              go_ret
              exact ⟨rfl, HB6.out⟩
        · have HTR := Lib.hid (decide_eq_false ht1)
          clear hfin ht1
          cases hRs : R.isSome with
          | false =>
            have HRS := Lib.hid hRs
            clear hRs
            go_enter Tryd.func4, Tryd.ntmps4
            go_wp2_with fail
            refine (G.out).mono ?_
            rintro e wz ⟨rfl, rfl⟩
            go_wp2_with fail
            refine (G6.out).mono ?_
            rintro e wz ⟨rfl, rfl⟩
            go_wp2_with fail
            refine (CD.out w (Below.refl w.heap.size w)).mono ?_
            rintro e w1 ⟨AD, nD, cD, rfl, ho1, hb1⟩
            have HB1 := Lib.hid (bt (Below.refl w.heap.size w) hb1)
            have hcapD := ho1.cap
            have hmaxD := ho1.max
            rw [maxLen_eq] at hmaxD
            have HD := Lib.hid (ho1.base (Below.refl w.heap.size w).size)
            clear hb1 ho1
            go_wp2_with fail
            refine (CLF.out w1 HB1.out).mono ?_
            rintro e w2 ⟨rfl, hb2⟩
            replace HD := Lib.hid (HD.out.keep hb2)
            have HB2 := Lib.hid (bt HB1.out hb2)
            clear hb2
            go_wp2_with fail
            refine (CC.out w2 HB2.out).mono ?_
            rintro e w3 ⟨rfl, hb3⟩
            replace HD := Lib.hid (HD.out.keep hb3)
            have HB3 := Lib.hid (bt HB2.out hb3)
            clear hb3
            go_wp2_with fail
            refine (CLE.out w3 HB3.out).mono ?_
            rintro e w4 ⟨AC, nC, cC, BC, mC, kC, rfl, hf1, hf2, hb4⟩
            rw [HRS.out]
            have hbx4 := bt hb4 ((Below.refl _ w4).alloc (Nat.le_refl _) (.cells #[.slice AC nC cC, .slice BC mC kC] 29))
            replace HD := Lib.hid (HD.out.keep hbx4)
            have HB4 := Lib.hid (bt HB3.out hbx4)
            have HC := Lib.hid (CBox.new hf1 hf2)
            clear hb4 hbx4 hf1 hf2
            obtain ⟨wy, hwy⟩ : ∃ wy, (w4.alloc (.cells #[.slice AC nC cC, .slice BC mC kC] 29)) = wy := ⟨_, rfl⟩
            rw [hwy] at HD HC HB4
            have HWY := Lib.hid hwy
            clear hwy
            have HXLy := Lib.hid (fun (W : World) (hW : Below wy.heap.size wy W) => HXL.out W (bt HB4.out hW))
            have HXy := Lib.hid (fun (W : World) (hW : Below wy.heap.size wy W) => HXK.out.keep (bt HB4.out hW))
            have HLJy := Lib.hid (fun (W : World) (hW : Below wy.heap.size wy W) => HLJ.out.keep (bt HB4.out hW))
            have CRTy := Lib.hid (fun (W : World) (hW : Below wy.heap.size wy W) => CRT.out AD nD cD W (HD.out.keep hW))
            unfold StrPost at CRTy
            go_wp2_with fail
            rw [HWY.out]
            refine Free.wp_free_l 18 (fun W => Below wy.heap.size wy W) [Free.kc (.int .i64 0), Free.kc (.bool true), Free.kc (.bool true), Free.kc (sv T), Free.kc (.slice AD nD cD), Free.kc (sv RT), Free.kc (.bool false), Free.kc (.bool false), Free.kc (.bool false), Free.kc (undef), Free.kc (undef), Free.kc (undef), Free.kc (undef), Free.kc (undef), Free.kc (undef), Free.kc (undef), Free.kc (undef), Free.kc (.bool false)] (by kernel_rfl) (by kernel_rfl) (by decide) (Below.refl _ _).drew (fun w w' h g => bt h g) ?_ ?_
            · refine Free.forall_succ (Free.forall_succ (Free.forall_succ (Free.forall_succ (Free.forall_succ (Free.forall_succ (Free.forall_succ (Free.forall_succ (Free.forall_succ (Free.forall_succ (Free.forall_succ (Free.forall_succ (Free.forall_succ (Free.forall_succ (Free.forall_succ (Free.forall_succ (Free.forall_succ (Free.forall_succ (Free.forall_zero) ?_) ?_) ?_) ?_) ?_) ?_) ?_) ?_) ?_) ?_) ?_) ?_) ?_) ?_) ?_) ?_) ?_) ?_
              · exact Free.ob_plain _ rfl rfl fun vals wq hC hd => (by exact Free.d_move rfl (by kernel_rfl) rfl)
              · exact Free.ob_plain _ rfl rfl fun vals wq hC hd => (by exact Free.d_bin rfl (Eq.trans (b := vals 0) (by kernel_rfl) (hd 0 (by kernel_rfl))) (show _ = (.int .i64 0 : Value) from rfl) (by go_simp) (by first | (go_simp; done) | (go_simp; rw [IntWalk.u32_in _ (by omega)]) | (go_simp; rw [IntWalk.i64_in _ (by omega)]) | (go_simp; rw [IntWalk.u8_in _ (by omega)]) | (go_simp; rw [IntKind.wrap_u32]; exact nv_add _ _)) rfl)
              · exact Free.ob_plain _ rfl rfl fun vals wq hC hd => (by exact Free.d_move rfl (Eq.trans (b := vals 1) (by kernel_rfl) (hd 1 (by kernel_rfl))) rfl)
              · exact Free.ob_guard _ rfl 2 62 true rfl rfl fun vals wq hC hd => ⟨Eq.trans (b := vals 2) (by kernel_rfl) (hd 2 (by kernel_rfl)), (by exact Free.d_move rfl (by kernel_rfl) rfl)⟩
              · exact Free.ob_guard _ rfl 2 62 true rfl rfl fun vals wq hC hd => ⟨Eq.trans (b := vals 2) (by kernel_rfl) (hd 2 (by kernel_rfl)), (by exact Free.d_move rfl (by kernel_rfl) rfl)⟩
              · exact Free.ob_guard _ rfl 2 62 true rfl rfl fun vals wq hC hd => ⟨Eq.trans (b := vals 2) (by kernel_rfl) (hd 2 (by kernel_rfl)), (by exact Free.d_call Tryd.func19 (by kernel_rfl) (by kernel_rfl) rfl rfl (Free.arg1 (Eq.trans (b := vals 4) (by kernel_rfl) (hd 4 (by kernel_rfl)))) ((CRTy.out wq hC).mono fun e w2 h => ⟨_, h.1, rfl, h.2⟩))⟩
              · exact Free.ob_guard _ rfl 2 62 true rfl rfl fun vals wq hC hd => ⟨Eq.trans (b := vals 2) (by kernel_rfl) (hd 2 (by kernel_rfl)), (by exact Free.d_bin rfl (Eq.trans (b := vals 3) (by kernel_rfl) (hd 3 (by kernel_rfl))) (Eq.trans (b := vals 5) (by kernel_rfl) (hd 5 (by kernel_rfl))) (by go_simp) (by rw [run_eql_str, HTR.out]) rfl)⟩
              · exact Free.ob_plain _ rfl rfl fun vals wq hC hd => (by exact Free.d_pick rfl (Eq.trans (b := vals 2) (by kernel_rfl) (hd 2 (by kernel_rfl))) (Eq.trans (b := vals 6) (by kernel_rfl) (hd 6 (by kernel_rfl))) rfl)
              · exact Free.ob_plain _ rfl rfl fun vals wq hC hd => (by exact Free.d_move rfl (Eq.trans (b := vals 7) (by kernel_rfl) (hd 7 (by kernel_rfl))) rfl)
              · exact Free.ob_skip _ rfl 8 68 true rfl rfl fun vals wq hC hd => ⟨.inl (Eq.trans (b := vals 8) (by kernel_rfl) (hd 8 (by kernel_rfl))), rfl⟩
              · exact Free.ob_skip _ rfl 8 68 true rfl rfl fun vals wq hC hd => ⟨.inl (Eq.trans (b := vals 8) (by kernel_rfl) (hd 8 (by kernel_rfl))), rfl⟩
              · exact Free.ob_skip _ rfl 8 68 true rfl rfl fun vals wq hC hd => ⟨.inl (Eq.trans (b := vals 8) (by kernel_rfl) (hd 8 (by kernel_rfl))), rfl⟩
              · exact Free.ob_skip _ rfl 8 68 true rfl rfl fun vals wq hC hd => ⟨.inl (Eq.trans (b := vals 8) (by kernel_rfl) (hd 8 (by kernel_rfl))), rfl⟩
              · exact Free.ob_skip _ rfl 8 68 true rfl rfl fun vals wq hC hd => ⟨.inl (Eq.trans (b := vals 8) (by kernel_rfl) (hd 8 (by kernel_rfl))), rfl⟩
              · exact Free.ob_skip _ rfl 8 68 true rfl rfl fun vals wq hC hd => ⟨.inl (Eq.trans (b := vals 8) (by kernel_rfl) (hd 8 (by kernel_rfl))), rfl⟩
              · exact Free.ob_skip _ rfl 8 68 true rfl rfl fun vals wq hC hd => ⟨.inl (Eq.trans (b := vals 8) (by kernel_rfl) (hd 8 (by kernel_rfl))), rfl⟩
              · exact Free.ob_skip _ rfl 8 68 true rfl rfl fun vals wq hC hd => ⟨.inl (Eq.trans (b := vals 8) (by kernel_rfl) (hd 8 (by kernel_rfl))), rfl⟩
              · exact Free.ob_plain _ rfl rfl fun vals wq hC hd => (by exact Free.d_pick rfl (Eq.trans (b := vals 8) (by kernel_rfl) (hd 8 (by kernel_rfl))) rfl rfl)
            · intro vals wq hC hd
              have e0 : vals 0 = (.int .i64 0) := hd 0 (by decide)
              have e1 : vals 1 = (.bool true) := hd 1 (by decide)
              have e2 : vals 2 = (.bool true) := hd 2 (by decide)
              have e3 : vals 3 = (sv T) := hd 3 (by decide)
              have e4 : vals 4 = (.slice AD nD cD) := hd 4 (by decide)
              have e5 : vals 5 = (sv RT) := hd 5 (by decide)
              have e6 : vals 6 = (.bool false) := hd 6 (by decide)
              have e7 : vals 7 = (.bool false) := hd 7 (by decide)
              have e8 : vals 8 = (.bool false) := hd 8 (by decide)
              have e9 : vals 9 = (undef) := hd 9 (by decide)
              have e10 : vals 10 = (undef) := hd 10 (by decide)
              have e11 : vals 11 = (undef) := hd 11 (by decide)
              have e12 : vals 12 = (undef) := hd 12 (by decide)
              have e13 : vals 13 = (undef) := hd 13 (by decide)
              have e14 : vals 14 = (undef) := hd 14 (by decide)
              have e15 : vals 15 = (undef) := hd 15 (by decide)
              have e16 : vals 16 = (undef) := hd 16 (by decide)
              have e17 : vals 17 = (.bool false) := hd 17 (by decide)
              simp only [Free.frameOf, List.range, List.range.loop, List.foldl, Free.dstOf, List.getElem?_toArray, List.getElem?_cons_zero, List.getElem?_cons_succ, Option.bind_some, Act.put, List.setIfInBounds_toArray, List.set_cons_zero, List.set_cons_succ, e0, e1, e2, e3, e4, e5, e6, e7, e8, e9, e10, e11, e12, e13, e14, e15, e16, e17]
              refine wpList_nil ?_
              clear hd e0 e1 e2 e3 e4 e5 e6 e7 e8 e9 e10 e11 e12 e13 e14 e15 e16 e17
              have HBY := Lib.hid (bt HB4.out hC)
              replace HD := Lib.hid (HD.out.keep hC)
              replace HC := Lib.hid (HC.out.keep hC)
              clear hC
              go_wp2_with fail
              refine (CP.out AD nD cD wq HBY.out HD.out).mono ?_
              rintro e w5 ⟨AP, nP, cP, rfl, ho5, hb5⟩
              replace HD := Lib.hid (HD.out.keep hb5)
              replace HC := Lib.hid (HC.out.keep hb5)
              have HB5 := Lib.hid (bt HBY.out hb5)
              have hcapP := ho5.cap
              have hmaxP := ho5.max
              rw [maxLen_eq] at hmaxP
              have HP := Lib.hid (ho5.base HBY.out.size)
              clear hb5 ho5
              have xl := HXL.out w5 HB5.out
              go_wp2_with fail
              refine (CL2.out AP nP cP w5 HB5.out HP.out).mono ?_
              rintro e w6 ⟨AE, nE, cE, BE, mE, kE, rfl, hf1, hf2, hb6⟩
              have hbx6 := bt hb6 ((Below.refl _ w6).alloc (Nat.le_refl _) (.cells #[.slice AE nE cE, .slice BE mE kE] 29))
              replace HD := Lib.hid (HD.out.keep hbx6)
              replace HC := Lib.hid (HC.out.keep hbx6)
              replace HP := Lib.hid (HP.out.keep hbx6)
              have HB6 := Lib.hid (bt HB5.out hbx6)
              have HE := Lib.hid (CBox.new hf1 hf2)
              clear hb6 hbx6 hf1 hf2
              clear xl
              go_wp2_with fail
              refine (KN.out (w6.alloc (.cells #[.slice AE nE cE, .slice BE mE kE] 29)) HB6.out).mono ?_
              rintro e w7 ⟨rfl, hb7⟩
              replace HD := Lib.hid (HD.out.keep hb7)
              replace HC := Lib.hid (HC.out.keep hb7)
              replace HP := Lib.hid (HP.out.keep hb7)
              replace HE := Lib.hid (HE.out.keep hb7)
              have HB7 := Lib.hid (bt HB6.out hb7)
              clear hb7
              go_wp2
              go_ret
              exact ⟨rfl, HB7.out⟩
          | true =>
            obtain ⟨r0, rfl⟩ := Option.isSome_iff_exists.1 hRs
            have HRS := Lib.hid hRs
            clear hRs
            go_enter Tryd.func4, Tryd.ntmps4
            go_wp2_with fail
            refine (G.out).mono ?_
            rintro e wz ⟨rfl, rfl⟩
            go_wp2_with fail
            refine (G6.out).mono ?_
            rintro e wz ⟨rfl, rfl⟩
            go_wp2_with fail
            refine (CD.out w (Below.refl w.heap.size w)).mono ?_
            rintro e w1 ⟨AD, nD, cD, rfl, ho1, hb1⟩
            have HB1 := Lib.hid (bt (Below.refl w.heap.size w) hb1)
            have hcapD := ho1.cap
            have hmaxD := ho1.max
            rw [maxLen_eq] at hmaxD
            have HD := Lib.hid (ho1.base (Below.refl w.heap.size w).size)
            clear hb1 ho1
            go_wp2_with fail
            refine (CLF.out w1 HB1.out).mono ?_
            rintro e w2 ⟨rfl, hb2⟩
            replace HD := Lib.hid (HD.out.keep hb2)
            have HB2 := Lib.hid (bt HB1.out hb2)
            clear hb2
            go_wp2_with fail
            refine (CC.out w2 HB2.out).mono ?_
            rintro e w3 ⟨rfl, hb3⟩
            replace HD := Lib.hid (HD.out.keep hb3)
            have HB3 := Lib.hid (bt HB2.out hb3)
            clear hb3
            go_wp2_with fail
            refine (CLE.out w3 HB3.out).mono ?_
            rintro e w4 ⟨AC, nC, cC, BC, mC, kC, rfl, hf1, hf2, hb4⟩
            rw [HRS.out]
            have hbx4 := bt hb4 ((Below.refl _ w4).alloc (Nat.le_refl _) (.cells #[.slice AC nC cC, .slice BC mC kC] 29))
            replace HD := Lib.hid (HD.out.keep hbx4)
            have HB4 := Lib.hid (bt HB3.out hbx4)
            have HC := Lib.hid (CBox.new hf1 hf2)
            clear hb4 hbx4 hf1 hf2
            obtain ⟨wy, hwy⟩ : ∃ wy, (w4.alloc (.cells #[.slice AC nC cC, .slice BC mC kC] 29)) = wy := ⟨_, rfl⟩
            rw [hwy] at HD HC HB4
            have HWY := Lib.hid hwy
            clear hwy
            have HXLy := Lib.hid (fun (W : World) (hW : Below wy.heap.size wy W) => HXL.out W (bt HB4.out hW))
            have HXy := Lib.hid (fun (W : World) (hW : Below wy.heap.size wy W) => HXK.out.keep (bt HB4.out hW))
            have HLJy := Lib.hid (fun (W : World) (hW : Below wy.heap.size wy W) => HLJ.out.keep (bt HB4.out hW))
            have CRTy := Lib.hid (fun (W : World) (hW : Below wy.heap.size wy W) => CRT.out AD nD cD W (HD.out.keep hW))
            unfold StrPost at CRTy
            go_wp2_with fail
            rw [HWY.out]
            refine Free.wp_free_l 18 (fun W => Below wy.heap.size wy W) [Free.kc (.int .i64 0), Free.kc (.bool true), Free.kc (.bool true), Free.kc (sv T), Free.kc (.slice AD nD cD), Free.kc (sv RT), Free.kc (.bool false), Free.kc (.bool false), Free.kc (.bool false), Free.kc (undef), Free.kc (undef), Free.kc (undef), Free.kc (undef), Free.kc (undef), Free.kc (undef), Free.kc (undef), Free.kc (undef), Free.kc (.bool false)] (by kernel_rfl) (by kernel_rfl) (by decide) (Below.refl _ _).drew (fun w w' h g => bt h g) ?_ ?_
            · refine Free.forall_succ (Free.forall_succ (Free.forall_succ (Free.forall_succ (Free.forall_succ (Free.forall_succ (Free.forall_succ (Free.forall_succ (Free.forall_succ (Free.forall_succ (Free.forall_succ (Free.forall_succ (Free.forall_succ (Free.forall_succ (Free.forall_succ (Free.forall_succ (Free.forall_succ (Free.forall_succ (Free.forall_zero) ?_) ?_) ?_) ?_) ?_) ?_) ?_) ?_) ?_) ?_) ?_) ?_) ?_) ?_) ?_) ?_) ?_) ?_
              · exact Free.ob_plain _ rfl rfl fun vals wq hC hd => (by exact Free.d_move rfl (by kernel_rfl) rfl)
              · exact Free.ob_plain _ rfl rfl fun vals wq hC hd => (by exact Free.d_bin rfl (Eq.trans (b := vals 0) (by kernel_rfl) (hd 0 (by kernel_rfl))) (show _ = (.int .i64 0 : Value) from rfl) (by go_simp) (by first | (go_simp; done) | (go_simp; rw [IntWalk.u32_in _ (by omega)]) | (go_simp; rw [IntWalk.i64_in _ (by omega)]) | (go_simp; rw [IntWalk.u8_in _ (by omega)]) | (go_simp; rw [IntKind.wrap_u32]; exact nv_add _ _)) rfl)
              · exact Free.ob_plain _ rfl rfl fun vals wq hC hd => (by exact Free.d_move rfl (Eq.trans (b := vals 1) (by kernel_rfl) (hd 1 (by kernel_rfl))) rfl)
              · exact Free.ob_guard _ rfl 2 62 true rfl rfl fun vals wq hC hd => ⟨Eq.trans (b := vals 2) (by kernel_rfl) (hd 2 (by kernel_rfl)), (by exact Free.d_move rfl (by kernel_rfl) rfl)⟩
              · exact Free.ob_guard _ rfl 2 62 true rfl rfl fun vals wq hC hd => ⟨Eq.trans (b := vals 2) (by kernel_rfl) (hd 2 (by kernel_rfl)), (by exact Free.d_move rfl (by kernel_rfl) rfl)⟩
              · exact Free.ob_guard _ rfl 2 62 true rfl rfl fun vals wq hC hd => ⟨Eq.trans (b := vals 2) (by kernel_rfl) (hd 2 (by kernel_rfl)), (by exact Free.d_call Tryd.func19 (by kernel_rfl) (by kernel_rfl) rfl rfl (Free.arg1 (Eq.trans (b := vals 4) (by kernel_rfl) (hd 4 (by kernel_rfl)))) ((CRTy.out wq hC).mono fun e w2 h => ⟨_, h.1, rfl, h.2⟩))⟩
              · exact Free.ob_guard _ rfl 2 62 true rfl rfl fun vals wq hC hd => ⟨Eq.trans (b := vals 2) (by kernel_rfl) (hd 2 (by kernel_rfl)), (by exact Free.d_bin rfl (Eq.trans (b := vals 3) (by kernel_rfl) (hd 3 (by kernel_rfl))) (Eq.trans (b := vals 5) (by kernel_rfl) (hd 5 (by kernel_rfl))) (by go_simp) (by rw [run_eql_str, HTR.out]) rfl)⟩
              · exact Free.ob_plain _ rfl rfl fun vals wq hC hd => (by exact Free.d_pick rfl (Eq.trans (b := vals 2) (by kernel_rfl) (hd 2 (by kernel_rfl))) (Eq.trans (b := vals 6) (by kernel_rfl) (hd 6 (by kernel_rfl))) rfl)
              · exact Free.ob_plain _ rfl rfl fun vals wq hC hd => (by exact Free.d_move rfl (Eq.trans (b := vals 7) (by kernel_rfl) (hd 7 (by kernel_rfl))) rfl)
              · exact Free.ob_skip _ rfl 8 68 true rfl rfl fun vals wq hC hd => ⟨.inl (Eq.trans (b := vals 8) (by kernel_rfl) (hd 8 (by kernel_rfl))), rfl⟩
              · exact Free.ob_skip _ rfl 8 68 true rfl rfl fun vals wq hC hd => ⟨.inl (Eq.trans (b := vals 8) (by kernel_rfl) (hd 8 (by kernel_rfl))), rfl⟩
              · exact Free.ob_skip _ rfl 8 68 true rfl rfl fun vals wq hC hd => ⟨.inl (Eq.trans (b := vals 8) (by kernel_rfl) (hd 8 (by kernel_rfl))), rfl⟩
              · exact Free.ob_skip _ rfl 8 68 true rfl rfl fun vals wq hC hd => ⟨.inl (Eq.trans (b := vals 8) (by kernel_rfl) (hd 8 (by kernel_rfl))), rfl⟩
              · exact Free.ob_skip _ rfl 8 68 true rfl rfl fun vals wq hC hd => ⟨.inl (Eq.trans (b := vals 8) (by kernel_rfl) (hd 8 (by kernel_rfl))), rfl⟩
              · exact Free.ob_skip _ rfl 8 68 true rfl rfl fun vals wq hC hd => ⟨.inl (Eq.trans (b := vals 8) (by kernel_rfl) (hd 8 (by kernel_rfl))), rfl⟩
              · exact Free.ob_skip _ rfl 8 68 true rfl rfl fun vals wq hC hd => ⟨.inl (Eq.trans (b := vals 8) (by kernel_rfl) (hd 8 (by kernel_rfl))), rfl⟩
              · exact Free.ob_skip _ rfl 8 68 true rfl rfl fun vals wq hC hd => ⟨.inl (Eq.trans (b := vals 8) (by kernel_rfl) (hd 8 (by kernel_rfl))), rfl⟩
              · exact Free.ob_plain _ rfl rfl fun vals wq hC hd => (by exact Free.d_pick rfl (Eq.trans (b := vals 8) (by kernel_rfl) (hd 8 (by kernel_rfl))) rfl rfl)
            · intro vals wq hC hd
              have e0 : vals 0 = (.int .i64 0) := hd 0 (by decide)
              have e1 : vals 1 = (.bool true) := hd 1 (by decide)
              have e2 : vals 2 = (.bool true) := hd 2 (by decide)
              have e3 : vals 3 = (sv T) := hd 3 (by decide)
              have e4 : vals 4 = (.slice AD nD cD) := hd 4 (by decide)
              have e5 : vals 5 = (sv RT) := hd 5 (by decide)
              have e6 : vals 6 = (.bool false) := hd 6 (by decide)
              have e7 : vals 7 = (.bool false) := hd 7 (by decide)
              have e8 : vals 8 = (.bool false) := hd 8 (by decide)
              have e9 : vals 9 = (undef) := hd 9 (by decide)
              have e10 : vals 10 = (undef) := hd 10 (by decide)
              have e11 : vals 11 = (undef) := hd 11 (by decide)
              have e12 : vals 12 = (undef) := hd 12 (by decide)
              have e13 : vals 13 = (undef) := hd 13 (by decide)
              have e14 : vals 14 = (undef) := hd 14 (by decide)
              have e15 : vals 15 = (undef) := hd 15 (by decide)
              have e16 : vals 16 = (undef) := hd 16 (by decide)
              have e17 : vals 17 = (.bool false) := hd 17 (by decide)
              simp only [Free.frameOf, List.range, List.range.loop, List.foldl, Free.dstOf, List.getElem?_toArray, List.getElem?_cons_zero, List.getElem?_cons_succ, Option.bind_some, Act.put, List.setIfInBounds_toArray, List.set_cons_zero, List.set_cons_succ, e0, e1, e2, e3, e4, e5, e6, e7, e8, e9, e10, e11, e12, e13, e14, e15, e16, e17]
              refine wpList_nil ?_
              clear hd e0 e1 e2 e3 e4 e5 e6 e7 e8 e9 e10 e11 e12 e13 e14 e15 e16 e17
              have HBY := Lib.hid (bt HB4.out hC)
              replace HD := Lib.hid (HD.out.keep hC)
              replace HC := Lib.hid (HC.out.keep hC)
              clear hC
              go_wp2_with fail
              refine (CP.out AD nD cD wq HBY.out HD.out).mono ?_
              rintro e w5 ⟨AP, nP, cP, rfl, ho5, hb5⟩
              replace HD := Lib.hid (HD.out.keep hb5)
              replace HC := Lib.hid (HC.out.keep hb5)
              have HB5 := Lib.hid (bt HBY.out hb5)
              have hcapP := ho5.cap
              have hmaxP := ho5.max
              rw [maxLen_eq] at hmaxP
              have HP := Lib.hid (ho5.base HBY.out.size)
              clear hb5 ho5
              have xl := HXL.out w5 HB5.out
              go_wp2_with fail
              refine (CL2.out AP nP cP w5 HB5.out HP.out).mono ?_
              rintro e w6 ⟨AE, nE, cE, BE, mE, kE, rfl, hf1, hf2, hb6⟩
              have hbx6 := bt hb6 ((Below.refl _ w6).alloc (Nat.le_refl _) (.cells #[.slice AE nE cE, .slice BE mE kE] 29))
              replace HD := Lib.hid (HD.out.keep hbx6)
              replace HC := Lib.hid (HC.out.keep hbx6)
              replace HP := Lib.hid (HP.out.keep hbx6)
              have HB6 := Lib.hid (bt HB5.out hbx6)
              have HE := Lib.hid (CBox.new hf1 hf2)
              clear hb6 hbx6 hf1 hf2
              clear xl
              have x0 := HC.out.x0
              have x1 := HC.out.x1
              go_wp2_with fail
              refine (HC.out.is rfl HSM.out (HT.out.below HB6.out)).mono ?_
              rintro e w7 ⟨rfl, hb7⟩
              replace HD := Lib.hid (HD.out.keep hb7)
              replace HC := Lib.hid (HC.out.keep hb7)
              replace HP := Lib.hid (HP.out.keep hb7)
              replace HE := Lib.hid (HE.out.keep hb7)
              have HB7 := Lib.hid (bt HB6.out hb7)
              clear hb7
              clear x0 x1
              go_wp2_with fail
              refine (KN.out w7 HB7.out).mono ?_
              rintro e w8 ⟨rfl, hb8⟩
              replace HD := Lib.hid (HD.out.keep hb8)
              replace HC := Lib.hid (HC.out.keep hb8)
              replace HP := Lib.hid (HP.out.keep hb8)
              replace HE := Lib.hid (HE.out.keep hb8)
              have HB8 := Lib.hid (bt HB7.out hb8)
              clear hb8
              go_wp2
              go_ret
              exact ⟨rfl, HB8.out⟩
end Go.Proofs.YtlcdpbpbfofmmaaDoor
