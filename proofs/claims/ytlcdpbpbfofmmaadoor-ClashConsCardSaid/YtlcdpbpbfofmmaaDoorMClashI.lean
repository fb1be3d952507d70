/- MClashI: several texts of this claim in one file. No statement of the seat is proved here. -/
import Derived.Test.YtlcdpbpbfofmmaaDoorMClashH
namespace Go.Proofs.YtlcdpbpbfofmmaaDoor
set_option maxRecDepth 100000
set_option linter.unusedVariables false
open Go.RowKit
theorem roots_len32 {one : List UInt8} {p : List (List UInt8)} {m n : Nat} {wh : Bool} (h1 : one.length = 32) (h32 : ∀ s ∈ p, s.length = 32) (hm : 1 ≤ m) (hmn : m ≤ n) (hr : (Cons.roots tnd [] m n wh one p).2.2 = true) : (Cons.roots tnd [] m n wh one p).1.length = 32 ∧ (Cons.roots tnd [] m n wh one p).2.1.length = 32 := by
  obtain ⟨one0, hd, p', hp, hpl, hh, hro⟩ := Cl.roots_dec one n 0 m n wh p (Nat.le_refl _) hm hmn hr
  have h0 : one0.length = 32 := by
    rcases hh with h | h
    · rw [h.2.2.2]; exact h1
    · exact h32 one0 (by rw [hp, h.2]; simp)
  rw [hro]
  exact Cl.ons_len one0 h0 _ _
set_option maxHeartbeats 32000000 in
theorem rold_any : ∀ (q : Nat) (A : Option Addr) (cA : Nat) (a : List (List UInt8)) (m n : Nat) (wh : Bool) (one : List UInt8) (Ap : Option Addr) (np cp : Nat) (p : List (List UInt8)) (w : World), n ≤ q → 1 ≤ m → m ≤ n → n ≤ 300 → Ss w A m cA a → (∀ s ∈ a, s.length = 32) → one.length = 32 → Ss w Ap np cp p → (∀ s ∈ p, s.length = 32) →
    (Cons.roots tnd [] m n wh one p).2.2 = true → Calls Tryd.prog 68 #[.slice A m cA, .int .i64 (m : Int), .int .i64 (n : Int), .bool wh, sv one, .slice Ap np cp] w (ResPost w.heap.size (Cl.co one q m n wh a p) w)
  | 0, A, cA, a, m, n, wh, one, Ap, np, cp, p, w, hq, hm1, hmn, hn, hsa, h32a, h1l, hps, h32, hrt => by omega
  | q + 1, A, cA, a, m, n, wh, one, Ap, np, cp, p, w, hq, hm1, hmn, hn, hsa, h32a, h1l, hps, h32, hrt => by
    have hca := hsa.cap
    have hcm := hsa.max
    rw [maxLen_eq] at hcm
    have hpc := hps.cap
    have hpm := hps.max
    rw [maxLen_eq] at hpm
    have HB0 := Lib.hid (show Below w.heap.size w (w.alloc (.cells #[.slice none 0 0, .slice none 0 0] 33)) from (Below.refl _ w).alloc (Nat.le_refl _) _)
    have HROW0 := Lib.hid (row_new w #[.slice none 0 0, .slice none 0 0] 33)
    have hlt0 : w.heap.size < (w.alloc (.cells #[.slice none 0 0, .slice none 0 0] 33)).heap.size := by unfold World.alloc; simp
    by_cases hne : m = n
    · subst hne
      have HE := Lib.hid (show Cl.co one (q + 1) m m wh a p = none by rw [Cl.co, if_pos rfl])
      have x0 := HROW0.out.cellQ 0 _ rfl
      have x1 := HROW0.out.cellQ 1 _ rfl
      have f0 := HROW0.out.frozen 0
      have f1 := HROW0.out.frozen 1
      have HROWF := Lib.hid (show ∀ u v, Row (setFrom w.heap.size (w.alloc (.cells #[.slice none 0 0, .slice none 0 0] 33)) 0 [u, v]) w.heap.size #[u, v] 33 from fun u v => HROW0.out.all [u, v] rfl)
      clear hsa h32a h1l hps h32 hrt hlt0
      go_enter Tryd.func68, Tryd.ntmps68
      go_wp2
      refine bodyPost_ret (v := .tuple #[.agg #[.slice none 0 0, .slice none 0 0], .bool false]) (by simp [results, Tryd.results68, go_sem, x0, x1]) rfl ?_
      rw [HE.out]
      exact ⟨none, 0, 0, none, 0, 0, rfl, Fr.nil _ _, Fr.nil _ _, HB0.out⟩
    have hb1 : ((m : Int) == (n : Int)) = false := beq_eq_false_iff_ne.2 (by omega)
    have h2 : 2 ≤ n := by omega
    obtain ⟨w1, hw1⟩ : ∃ w1, (w.alloc (.cells #[.slice none 0 0, .slice none 0 0] 33)) = w1 := ⟨_, rfl⟩
    have HW1 := Lib.hid hw1
    rw [hw1] at HB0 HROW0 hlt0
    have HLT := Lib.hid hlt0
    obtain ⟨k0, hk⟩ : ∃ k0, Tree.sp n = k0 := ⟨_, rfl⟩
    have kp := Tree.sp_pos h2
    have kl := Tree.sp_lt h2
    rw [hk] at kp kl
    have HSP := Lib.hid (show Tree.spz (n : Int) = k0 by rw [Tree.spz_in h2 (by omega), hk])
    rcases List.eq_nil_or_concat p with rfl | ⟨p0, d, rfl⟩
    · rw [Cons.roots_nil _ _ hne] at hrt; cases hrt
    rw [List.concat_eq_append] at hps h32 hrt ⊢
    obtain ⟨k1, hk1⟩ : ∃ k1, p0.length = k1 := ⟨_, rfl⟩
    have hnp : np = k1 + 1 := by rw [← hps.len, List.length_append, hk1]; rfl
    subst hnp
    obtain ⟨b, off, rfl, hbb, hcell, _⟩ := hps.at (k := k1) (by omega)
    have hd32 : d.length = 32 := h32 d (by simp)
    have h320 : ∀ s ∈ p0, s.length = 32 := fun s hs => h32 s (List.mem_append.2 (.inl hs))
    have HX := Lib.hid (show ∀ W, Below w.heap.size w W → W.cell? ⟨b, off + k1, none⟩ = some (sv d) from fun W hW => (hW.cell (p := ⟨b, off + k1, none⟩) hbb).trans (hcell k1 d (by rw [← hk1]; simp)))
    have HSB := Lib.hid (show ∀ W, Below w.heap.size w W → Sb W W.heap.size (some ⟨b, off, none⟩) (k1 + 1) cp (p0 ++ [d]) from fun W hW => by have := hps.keep hW; exact ⟨this.rd, this.len, this.cap, this.max⟩)
    have HTK := Lib.hid (show (p0 ++ [d]).take k1 = p0 by rw [← hk1]; simp)
    have HSA := Lib.hid (show ∀ W, Below w.heap.size w W → Ss W A m cA a from fun W hW => hsa.keep hW)
    have hdl : (p0 ++ [d]).dropLast = p0 := List.dropLast_concat
    have hgl : (p0 ++ [d]).getLastD [] = d := by simp
    have c1 : ((k1 + 1 : Nat) : Int) - 1 = (k1 : Int) := by omega
    have c2 : ((k1 : Int) + 1) - 1 = (k1 : Int) := by omega
    clear hw1 hlt0 hcell hps h32
    by_cases hlt : m ≤ k0
    · have hlz : (m : Int) ≤ (k0 : Int) := by omega
      have hrr : (Cons.roots tnd [] m k0 wh one p0).2.2 = true := by
        have h := hrt
        rw [Cons.roots_left _ _ (by omega) hne (by rw [hk]; exact hlt), hk] at h
        exact h
      obtain ⟨rst, hrst⟩ : ∃ r, Cl.co one q m k0 wh a p0 = r := ⟨_, rfl⟩
      have HE := Lib.hid (show Cl.co one (q + 1) m n wh a (p0 ++ [d]) = rst by
        rw [Cl.co, if_neg hne, hk, if_pos hlt, hdl, hrst])
      have CI := Lib.hid (show ∀ (A' : Option Addr) (cA' : Nat) (A2 : Option Addr) (c2 : Nat) (W : World), Below w.heap.size w W → Ss W A' m cA' a → Sb W W.heap.size A2 k1 c2 p0 → Calls Tryd.prog 68 #[.slice A' m cA', .int .i64 (m : Int), .int .i64 (k0 : Int), .bool wh, sv one, .slice A2 k1 c2] W (ResPost W.heap.size rst W) from fun A' cA' A2 c2 W hW h1 h2 => by
        have := rold_any q A' cA' a m k0 wh one A2 k1 c2 p0 W (by omega) (by omega) (by omega) (by omega) h1 h32a h1l (h2.ss (Nat.le_refl _)) h320 hrr
        rw [hrst] at this
        exact this)
      clear hrr hrst h32a h1l h320 hdl hgl hk hrt hsa
      go_enter Tryd.func68, Tryd.ntmps68
      go_wp2_with fail
      rw [HW1.out]
      (with_reducible refine (rsplit_any (n : Int) w1 (by omega) (by omega)).mono ?_)
      rintro e wz ⟨rfl, rfl⟩
      rw [HSP.out]
      have z0 := HX.out w1 HB0.out
      go_upto_region 7 with (refine wl_cutB_hi rfl (.tmp 34) (.tmp 37) rfl rfl (HSB.out w1 HB0.out) k1 (by go_num) (by omega) ?_; intro A2 h2'; rw [HTK.out] at h2'; have H2 := Lib.hid h2'; clear h2' z0)
      go_wp2_with fail
      (with_reducible refine (CI.out A cA A2 _ w1 HB0.out (HSA.out w1 HB0.out) H2.out).mono ?_)
      rintro e w10 ⟨A11, n11, c11, B11, m11, k11, rfl, hf1, hf2, hb10⟩
      have HBX := Lib.hid (bt (Below.refl w1.heap.size w1) hb10)
      have HF9 := Lib.hid (And.intro (hf1.base ((Below.refl w1.heap.size w1)).size) (hf2.base ((Below.refl w1.heap.size w1)).size))
      clear hf1 hf2 hb10
      have hres := Row.belowS HROW0.out HBX.out (Nat.le_refl _)
      have x0 := hres.cellQ 0 _ rfl
      have x1 := hres.cellQ 1 _ rfl
      have f0 := hres.frozen 0
      have f1 := hres.frozen 1
      have HROWF := Lib.hid (show ∀ u v, Row (setFrom w.heap.size w10 0 [u, v]) w.heap.size #[u, v] 33 from fun u v => hres.all [u, v] rfl)
      have HFF := Lib.hid (And.intro (HF9.out.1) (HF9.out.2))
      clear hres
      go_wp2
      generalize hwd : World.setCell (World.setCell w10 _ _) _ _ = wd
      have hsf : setFrom w.heap.size w10 0 [.slice A11 n11 c11, .slice B11 m11 k11] = wd := by rw [← hwd]; rfl
      have r0 : wd.cell? ⟨w.heap.size, 0, none⟩ = some (.slice A11 n11 c11) := by rw [← hsf]; exact (HROWF.out _ _).cellQ 0 _ rfl
      have r1 : wd.cell? ⟨w.heap.size, 1, none⟩ = some (.slice B11 m11 k11) := by rw [← hsf]; exact (HROWF.out _ _).cellQ 1 _ rfl
      refine bodyPost_ret (v := .tuple #[.agg #[.slice A11 n11 c11, .slice B11 m11 k11], .bool rst.isSome]) (by simp [results, Tryd.results68, go_sem, r0, r1]) rfl ?_
      rw [HE.out]
      exact ⟨A11, n11, c11, B11, m11, k11, rfl, by rw [← hsf]; exact (HFF.out.1.set HLT.out _ 0).base (Nat.le_of_lt HLT.out), by rw [← hsf]; exact (HFF.out.2.set HLT.out _ 0).base (Nat.le_of_lt HLT.out), by rw [← hsf]; exact below_setFrom (Nat.le_refl _) _ 0 (bt HB0.out HBX.out)⟩
    · have hlz : ¬ (m : Int) ≤ (k0 : Int) := by omega
      have hrr : (Cons.roots tnd [] (m - k0) (n - k0) false one p0).2.2 = true := by
        have h := hrt
        rw [Cons.roots_right _ _ (by omega) hne (by rw [hk]; exact hlt), hk] at h
        exact h
      obtain ⟨rst, hrst⟩ : ∃ r, Cl.co one q (m - k0) (n - k0) false (a.drop k0) p0 = r := ⟨_, rfl⟩
      obtain ⟨Z, hZ⟩ : ∃ Z, (Cons.roots tnd [] (m - k0) (n - k0) false one p0).1 = Z := ⟨_, rfl⟩
      have hZl : Z.length = 32 := by rw [← hZ]; exact (roots_len32 h1l h320 (by omega) (by omega) hrr).1
      obtain ⟨T, hT⟩ : ∃ T, Cl.topB a = T := ⟨_, rfl⟩
      have hTl : T.length ≤ 1000 := by rw [← hT]; exact topB_le h32a
      obtain ⟨r0, hr0⟩ : ∃ r, Cl.btw (1 :: (d ++ Z)) T = r := ⟨_, rfl⟩
      have HE := Lib.hid (show Cl.co one (q + 1) m n wh a (p0 ++ [d]) = r0.or rst by
        rw [Cl.co, if_neg hne, hk, if_neg hlt, hdl, hgl, hZ, hT, hr0, hrst])
      have CRS := Lib.hid (show ∀ (A' : Option Addr) (c' : Nat) (W : World), Below w.heap.size w W → Sb W W.heap.size A' k1 c' p0 → Calls Tryd.prog 87 #[.int .i64 ((m : Int) - (k0 : Int)), .int .i64 ((n : Int) - (k0 : Int)), .bool false, sv one, .slice A' k1 c'] W (RootsPost (Cons.roots tnd [] (m - k0) (n - k0) false one p0) W) from fun A' c' W hW h => by
        rw [show ((m : Int) - (k0 : Int)) = ((m - k0 : Nat) : Int) by omega, show ((n : Int) - (k0 : Int)) = ((n - k0 : Nat) : Int) by omega]; exact roots_any _ (m - k0) (n - k0) false one A' k1 c' p0 W (Nat.le_refl _) (by omega) (by omega) (by omega) (by omega) (h.ss (Nat.le_refl _)) h320)
      unfold RootsPost at CRS
      rw [hZ] at CRS
      have CX := Lib.hid (fun (W : World) => xbytes_any d Z W (by omega) (by omega))
      unfold Ret8 at CX
      have CT := Lib.hid (show ∀ (W : World), Below w.heap.size w W → Calls Tryd.prog 45 #[.slice A m cA] W (Ret8 W.heap.size T W) from fun W hW => by
        rw [← hT]; exact rtop_any A m cA a W (hsa.keep hW) h32a (by omega) (by omega))
      unfold Ret8 at CT
      have CB := Lib.hid (fun (L : Nat) (A : Option Addr) (n c : Nat) (B : Option Addr) (m' k' : Nat) (W : World) (hL : L ≤ W.heap.size) (hA : Fr W L A n c (1 :: (d ++ Z))) (hB : Fr W L B m' k' T) => by
        have := rbetw_any L A n c B m' k' (1 :: (d ++ Z)) T W hL hA (by rw [← hA.len, List.length_cons, List.length_append]; omega) hB (by rw [← hB.len]; omega)
        rw [hr0] at this
        exact this)
      have CI := Lib.hid (show ∀ (A' : Option Addr) (cA' : Nat) (A2 : Option Addr) (c2 : Nat) (W : World), Below w.heap.size w W → Ss W A' (m - k0) cA' (a.drop k0) → Sb W W.heap.size A2 k1 c2 p0 → Calls Tryd.prog 68 #[.slice A' (m - k0) cA', .int .i64 ((m : Int) - (k0 : Int)), .int .i64 ((n : Int) - (k0 : Int)), .bool false, sv one, .slice A2 k1 c2] W (ResPost W.heap.size rst W) from fun A' cA' A2 c2 W hW h1 h2 => by
        rw [show ((m : Int) - (k0 : Int)) = ((m - k0 : Nat) : Int) by omega, show ((n : Int) - (k0 : Int)) = ((n - k0 : Nat) : Int) by omega]; have := rold_any q A' cA' (a.drop k0) (m - k0) (n - k0) false one A2 k1 c2 p0 W (by omega) (by omega) (by omega) (by omega) h1 (all_drop h32a k0) h1l (h2.ss (Nat.le_refl _)) h320 hrr
        rw [hrst] at this
        exact this)
      clear hrr hrst h32a h1l h320 hdl hgl hk hrt hsa hZ hZl hT hTl hr0
      go_enter Tryd.func68, Tryd.ntmps68
      go_wp2_with fail
      rw [HW1.out]
      (with_reducible refine (rsplit_any (n : Int) w1 (by omega) (by omega)).mono ?_)
      rintro e wz ⟨rfl, rfl⟩
      rw [HSP.out]
      have z0 := HX.out w1 HB0.out
      go_upto_region 8 with (refine wl_cutB_hi rfl (.tmp 34) (.tmp 37) rfl rfl (HSB.out w1 HB0.out) k1 (by go_num) (by omega) ?_; intro A2 h2'; rw [HTK.out] at h2'; have H2 := Lib.hid h2'; clear h2' z0)
      go_wp2_with fail
      (with_reducible refine (CRS.out A2 _ w1 HB0.out H2.out).mono ?_)
      rintro e w5 ⟨rfl, hb5⟩
      have HB5 := Lib.hid hb5
      clear hb5
      go_wp2_with fail
      (with_reducible refine (CX.out w5).mono ?_)
      rintro e w6 ⟨An, nn, cn, rfl, ho6, hb6⟩
      have HN6 := Lib.hid (ho6.base HB5.out.size)
      have HB6 := Lib.hid (bt HB5.out hb6)
      clear hb6 ho6
      go_wp2_with fail
      (with_reducible refine (CT.out w6 (bt HB0.out HB6.out)).mono ?_)
      rintro e w7 ⟨At, nt, ct, rfl, ho7, hb7⟩
      have HO7 := Lib.hid (ho7.base HB6.out.size)
      have HN7 := Lib.hid (HN6.out.keep hb7)
      have HB7 := Lib.hid (bt HB6.out hb7)
      clear hb7 ho7
      go_wp2_with fail
      (with_reducible refine (CB.out w1.heap.size An nn cn At nt ct w7 HB7.out.size (Fr.of8 HN7.out) (Fr.of8 HO7.out)).mono ?_)
      rintro e w8 ⟨A7, n7, c7, B7, m7, k7, rfl, hf1, hf2, hb8⟩
      have HF := Lib.hid (And.intro hf1 hf2)
      have HB8 := Lib.hid (bt HB7.out hb8)
      clear hf1 hf2 hb8
      have hb9 : Below w8.heap.size w8 (w8.alloc (.cells #[.slice A7 n7 c7, .slice B7 m7 k7] 33)) := (Below.refl _ w8).alloc (Nat.le_refl _) _
      have HB9 := Lib.hid (bt HB8.out hb9)
      cases r0 with
      | some r =>
        have hbox := row_new w8 #[.slice A7 n7 c7, .slice B7 m7 k7] 33
        have y0 := hbox.cellQ 0 _ rfl
        have y1 := hbox.cellQ 1 _ rfl
        clear hbox
        have hres := Row.belowS HROW0.out HB9.out (Nat.le_refl _)
        have x0 := hres.cellQ 0 _ rfl
        have x1 := hres.cellQ 1 _ rfl
        have f0 := hres.frozen 0
        have f1 := hres.frozen 1
        have HROWF := Lib.hid (show ∀ u v, Row (setFrom w.heap.size (w8.alloc (.cells #[.slice A7 n7 c7, .slice B7 m7 k7] 33)) 0 [u, v]) w.heap.size #[u, v] 33 from fun u v => hres.all [u, v] rfl)
        have HFF := Lib.hid (And.intro (HF.out.1.keep hb9) (HF.out.2.keep hb9))
        clear hres
        go_wp2
        generalize hwd : World.setCell (World.setCell (w8.alloc (.cells #[.slice A7 n7 c7, .slice B7 m7 k7] 33)) _ _) _ _ = wd
        have hsf : setFrom w.heap.size (w8.alloc (.cells #[.slice A7 n7 c7, .slice B7 m7 k7] 33)) 0 [.slice A7 n7 c7, .slice B7 m7 k7] = wd := by rw [← hwd]; rfl
        have r0 : wd.cell? ⟨w.heap.size, 0, none⟩ = some (.slice A7 n7 c7) := by rw [← hsf]; exact (HROWF.out _ _).cellQ 0 _ rfl
        have r1 : wd.cell? ⟨w.heap.size, 1, none⟩ = some (.slice B7 m7 k7) := by rw [← hsf]; exact (HROWF.out _ _).cellQ 1 _ rfl
        refine bodyPost_ret (v := .tuple #[.agg #[.slice A7 n7 c7, .slice B7 m7 k7], .bool true]) (by simp [results, Tryd.results68, go_sem, r0, r1]) rfl ?_
        rw [HE.out]
        exact ⟨A7, n7, c7, B7, m7, k7, rfl, by rw [← hsf]; exact (HFF.out.1.set HLT.out _ 0).base (Nat.le_of_lt HLT.out), by rw [← hsf]; exact (HFF.out.2.set HLT.out _ 0).base (Nat.le_of_lt HLT.out), by rw [← hsf]; exact below_setFrom (Nat.le_refl _) _ 0 (bt HB0.out HB9.out)⟩
      | none =>
        clear hb9 HF
        go_wp2_with (refine wl_cutS_lo rfl (.tmp 75) (.tmp 76) rfl rfl (HSA.out _ (bt HB0.out HB9.out)) k0 rfl (by omega) ?_; intro A9 h9; have H9 := Lib.hid h9; clear h9)
        (with_reducible refine (CI.out A9 _ A2 _ _ (bt HB0.out HB9.out) H9.out (by have := H2.out.keep HB9.out; exact ⟨this.rd.more (HB9.out).size, this.len, this.cap, this.max⟩)).mono ?_)
        rintro e w10 ⟨A11, n11, c11, B11, m11, k11, rfl, hf1, hf2, hb10⟩
        have HBX := Lib.hid (bt HB9.out hb10)
        have HF9 := Lib.hid (And.intro (hf1.base (HB9.out).size) (hf2.base (HB9.out).size))
        clear hf1 hf2 hb10
        have hres := Row.belowS HROW0.out HBX.out (Nat.le_refl _)
        have x0 := hres.cellQ 0 _ rfl
        have x1 := hres.cellQ 1 _ rfl
        have f0 := hres.frozen 0
        have f1 := hres.frozen 1
        have HROWF := Lib.hid (show ∀ u v, Row (setFrom w.heap.size w10 0 [u, v]) w.heap.size #[u, v] 33 from fun u v => hres.all [u, v] rfl)
        have HFF := Lib.hid (And.intro (HF9.out.1) (HF9.out.2))
        clear hres
        go_wp2
        generalize hwd : World.setCell (World.setCell w10 _ _) _ _ = wd
        have hsf : setFrom w.heap.size w10 0 [.slice A11 n11 c11, .slice B11 m11 k11] = wd := by rw [← hwd]; rfl
        have r0 : wd.cell? ⟨w.heap.size, 0, none⟩ = some (.slice A11 n11 c11) := by rw [← hsf]; exact (HROWF.out _ _).cellQ 0 _ rfl
        have r1 : wd.cell? ⟨w.heap.size, 1, none⟩ = some (.slice B11 m11 k11) := by rw [← hsf]; exact (HROWF.out _ _).cellQ 1 _ rfl
        refine bodyPost_ret (v := .tuple #[.agg #[.slice A11 n11 c11, .slice B11 m11 k11], .bool rst.isSome]) (by simp [results, Tryd.results68, go_sem, r0, r1]) rfl ?_
        rw [HE.out]
        exact ⟨A11, n11, c11, B11, m11, k11, rfl, by rw [← hsf]; exact (HFF.out.1.set HLT.out _ 0).base (Nat.le_of_lt HLT.out), by rw [← hsf]; exact (HFF.out.2.set HLT.out _ 0).base (Nat.le_of_lt HLT.out), by rw [← hsf]; exact below_setFrom (Nat.le_refl _) _ 0 (bt HB0.out HBX.out)⟩
set_option maxHeartbeats 32000000 in
theorem rfresh_any : ∀ (q : Nat) (A : Option Addr) (cA : Nat) (a : List (List UInt8)) (m n : Nat) (wh : Bool) (one : List UInt8) (Ap : Option Addr) (np cp : Nat) (p : List (List UInt8)) (w : World), n ≤ q → 1 ≤ m → m ≤ n → n ≤ 300 → Ss w A n cA a → (∀ s ∈ a, s.length = 32) → one.length = 32 → Ss w Ap np cp p → (∀ s ∈ p, s.length = 32) →
    (Cons.roots tnd [] m n wh one p).2.2 = true → Calls Tryd.prog 69 #[.slice A n cA, .int .i64 (m : Int), .int .i64 (n : Int), .bool wh, sv one, .slice Ap np cp] w (ResPost w.heap.size (Cl.fr one q m n wh a p) w)
  | 0, A, cA, a, m, n, wh, one, Ap, np, cp, p, w, hq, hm1, hmn, hn, hsa, h32a, h1l, hps, h32, hrt => by omega
  | q + 1, A, cA, a, m, n, wh, one, Ap, np, cp, p, w, hq, hm1, hmn, hn, hsa, h32a, h1l, hps, h32, hrt => by
    have hca := hsa.cap
    have hcm := hsa.max
    rw [maxLen_eq] at hcm
    have hpc := hps.cap
    have hpm := hps.max
    rw [maxLen_eq] at hpm
    have HB0 := Lib.hid (show Below w.heap.size w (w.alloc (.cells #[.slice none 0 0, .slice none 0 0] 33)) from (Below.refl _ w).alloc (Nat.le_refl _) _)
    have HROW0 := Lib.hid (row_new w #[.slice none 0 0, .slice none 0 0] 33)
    have hlt0 : w.heap.size < (w.alloc (.cells #[.slice none 0 0, .slice none 0 0] 33)).heap.size := by unfold World.alloc; simp
    by_cases hne : m = n
    · subst hne
      have HE := Lib.hid (show Cl.fr one (q + 1) m m wh a p = none by rw [Cl.fr, if_pos rfl])
      have x0 := HROW0.out.cellQ 0 _ rfl
      have x1 := HROW0.out.cellQ 1 _ rfl
      have f0 := HROW0.out.frozen 0
      have f1 := HROW0.out.frozen 1
      have HROWF := Lib.hid (show ∀ u v, Row (setFrom w.heap.size (w.alloc (.cells #[.slice none 0 0, .slice none 0 0] 33)) 0 [u, v]) w.heap.size #[u, v] 33 from fun u v => HROW0.out.all [u, v] rfl)
      clear hsa h32a h1l hps h32 hrt hlt0
      go_enter Tryd.func69, Tryd.ntmps69
      go_wp2
      refine bodyPost_ret (v := .tuple #[.agg #[.slice none 0 0, .slice none 0 0], .bool false]) (by simp [results, Tryd.results69, go_sem, x0, x1]) rfl ?_
      rw [HE.out]
      exact ⟨none, 0, 0, none, 0, 0, rfl, Fr.nil _ _, Fr.nil _ _, HB0.out⟩
    have hb1 : ((m : Int) == (n : Int)) = false := beq_eq_false_iff_ne.2 (by omega)
    have h2 : 2 ≤ n := by omega
    obtain ⟨w1, hw1⟩ : ∃ w1, (w.alloc (.cells #[.slice none 0 0, .slice none 0 0] 33)) = w1 := ⟨_, rfl⟩
    have HW1 := Lib.hid hw1
    rw [hw1] at HB0 HROW0 hlt0
    have HLT := Lib.hid hlt0
    obtain ⟨k0, hk⟩ : ∃ k0, Tree.sp n = k0 := ⟨_, rfl⟩
    have kp := Tree.sp_pos h2
    have kl := Tree.sp_lt h2
    rw [hk] at kp kl
    have HSP := Lib.hid (show Tree.spz (n : Int) = k0 by rw [Tree.spz_in h2 (by omega), hk])
    rcases List.eq_nil_or_concat p with rfl | ⟨p0, d, rfl⟩
    · rw [Cons.roots_nil _ _ hne] at hrt; cases hrt
    rw [List.concat_eq_append] at hps h32 hrt ⊢
    obtain ⟨k1, hk1⟩ : ∃ k1, p0.length = k1 := ⟨_, rfl⟩
    have hnp : np = k1 + 1 := by rw [← hps.len, List.length_append, hk1]; rfl
    subst hnp
    obtain ⟨b, off, rfl, hbb, hcell, _⟩ := hps.at (k := k1) (by omega)
    have hd32 : d.length = 32 := h32 d (by simp)
    have h320 : ∀ s ∈ p0, s.length = 32 := fun s hs => h32 s (List.mem_append.2 (.inl hs))
    have HX := Lib.hid (show ∀ W, Below w.heap.size w W → W.cell? ⟨b, off + k1, none⟩ = some (sv d) from fun W hW => (hW.cell (p := ⟨b, off + k1, none⟩) hbb).trans (hcell k1 d (by rw [← hk1]; simp)))
    have HSB := Lib.hid (show ∀ W, Below w.heap.size w W → Sb W W.heap.size (some ⟨b, off, none⟩) (k1 + 1) cp (p0 ++ [d]) from fun W hW => by have := hps.keep hW; exact ⟨this.rd, this.len, this.cap, this.max⟩)
    have HTK := Lib.hid (show (p0 ++ [d]).take k1 = p0 by rw [← hk1]; simp)
    have HSA := Lib.hid (show ∀ W, Below w.heap.size w W → Ss W A n cA a from fun W hW => hsa.keep hW)
    have hdl : (p0 ++ [d]).dropLast = p0 := List.dropLast_concat
    have hgl : (p0 ++ [d]).getLastD [] = d := by simp
    have c1 : ((k1 + 1 : Nat) : Int) - 1 = (k1 : Int) := by omega
    have c2 : ((k1 : Int) + 1) - 1 = (k1 : Int) := by omega
    clear hw1 hlt0 hcell hps h32
    by_cases hlt : m ≤ k0
    · have hlz : (m : Int) ≤ (k0 : Int) := by omega
      have hrr : (Cons.roots tnd [] m k0 wh one p0).2.2 = true := by
        have h := hrt
        rw [Cons.roots_left _ _ (by omega) hne (by rw [hk]; exact hlt), hk] at h
        exact h
      obtain ⟨rst, hrst⟩ : ∃ r, Cl.fr one q m k0 wh (a.take k0) p0 = r := ⟨_, rfl⟩
      obtain ⟨Z, hZ⟩ : ∃ Z, (Cons.roots tnd [] m k0 wh one p0).2.1 = Z := ⟨_, rfl⟩
      have hZl : Z.length = 32 := by rw [← hZ]; exact (roots_len32 h1l h320 (by omega) (by omega) hrr).2
      obtain ⟨T, hT⟩ : ∃ T, Cl.topB a = T := ⟨_, rfl⟩
      have hTl : T.length ≤ 1000 := by rw [← hT]; exact topB_le h32a
      obtain ⟨r0, hr0⟩ : ∃ r, Cl.btw (1 :: (Z ++ d)) T = r := ⟨_, rfl⟩
      have HE := Lib.hid (show Cl.fr one (q + 1) m n wh a (p0 ++ [d]) = r0.or rst by
        rw [Cl.fr, if_neg hne, hk, if_pos hlt, hdl, hgl, hZ, hT, hr0, hrst])
      have CRS := Lib.hid (show ∀ (A' : Option Addr) (c' : Nat) (W : World), Below w.heap.size w W → Sb W W.heap.size A' k1 c' p0 → Calls Tryd.prog 87 #[.int .i64 (m : Int), .int .i64 (k0 : Int), .bool wh, sv one, .slice A' k1 c'] W (RootsPost (Cons.roots tnd [] m k0 wh one p0) W) from fun A' c' W hW h => by
        exact roots_any _ m k0 wh one A' k1 c' p0 W (Nat.le_refl _) (by omega) (by omega) (by omega) (by omega) (h.ss (Nat.le_refl _)) h320)
      unfold RootsPost at CRS
      rw [hZ] at CRS
      have CX := Lib.hid (fun (W : World) => xbytes_any Z d W (by omega) (by omega))
      unfold Ret8 at CX
      have CT := Lib.hid (show ∀ (W : World), Below w.heap.size w W → Calls Tryd.prog 45 #[.slice A n cA] W (Ret8 W.heap.size T W) from fun W hW => by
        rw [← hT]; exact rtop_any A n cA a W (hsa.keep hW) h32a (by omega) (by omega))
      unfold Ret8 at CT
      have CB := Lib.hid (fun (L : Nat) (A : Option Addr) (n c : Nat) (B : Option Addr) (m' k' : Nat) (W : World) (hL : L ≤ W.heap.size) (hA : Fr W L A n c (1 :: (Z ++ d))) (hB : Fr W L B m' k' T) => by
        have := rbetw_any L A n c B m' k' (1 :: (Z ++ d)) T W hL hA (by rw [← hA.len, List.length_cons, List.length_append]; omega) hB (by rw [← hB.len]; omega)
        rw [hr0] at this
        exact this)
      have CI := Lib.hid (show ∀ (A' : Option Addr) (cA' : Nat) (A2 : Option Addr) (c2 : Nat) (W : World), Below w.heap.size w W → Ss W A' k0 cA' (a.take k0) → Sb W W.heap.size A2 k1 c2 p0 → Calls Tryd.prog 69 #[.slice A' k0 cA', .int .i64 (m : Int), .int .i64 (k0 : Int), .bool wh, sv one, .slice A2 k1 c2] W (ResPost W.heap.size rst W) from fun A' cA' A2 c2 W hW h1 h2 => by
        have := rfresh_any q A' cA' (a.take k0) m k0 wh one A2 k1 c2 p0 W (by omega) (by omega) (by omega) (by omega) h1 (all_take h32a k0) h1l (h2.ss (Nat.le_refl _)) h320 hrr
        rw [hrst] at this
        exact this)
      clear hrr hrst h32a h1l h320 hdl hgl hk hrt hsa hZ hZl hT hTl hr0
      go_enter Tryd.func69, Tryd.ntmps69
      go_wp2_with fail
      rw [HW1.out]
      (with_reducible refine (rsplit_any (n : Int) w1 (by omega) (by omega)).mono ?_)
      rintro e wz ⟨rfl, rfl⟩
      rw [HSP.out]
      have z0 := HX.out w1 HB0.out
      go_upto_region 7 with (refine wl_cutB_hi rfl (.tmp 39) (.tmp 42) rfl rfl (HSB.out w1 HB0.out) k1 (by go_num) (by omega) ?_; intro A2 h2'; rw [HTK.out] at h2'; have H2 := Lib.hid h2'; clear h2' z0)
      go_wp2_with fail
      (with_reducible refine (CRS.out A2 _ w1 HB0.out H2.out).mono ?_)
      rintro e w5 ⟨rfl, hb5⟩
      have HB5 := Lib.hid hb5
      clear hb5
      go_wp2_with fail
      (with_reducible refine (CX.out w5).mono ?_)
      rintro e w6 ⟨An, nn, cn, rfl, ho6, hb6⟩
      have HN6 := Lib.hid (ho6.base HB5.out.size)
      have HB6 := Lib.hid (bt HB5.out hb6)
      clear hb6 ho6
      go_wp2_with fail
      (with_reducible refine (CT.out w6 (bt HB0.out HB6.out)).mono ?_)
      rintro e w7 ⟨At, nt, ct, rfl, ho7, hb7⟩
      have HO7 := Lib.hid (ho7.base HB6.out.size)
      have HN7 := Lib.hid (HN6.out.keep hb7)
      have HB7 := Lib.hid (bt HB6.out hb7)
      clear hb7 ho7
      go_wp2_with fail
      (with_reducible refine (CB.out w1.heap.size An nn cn At nt ct w7 HB7.out.size (Fr.of8 HN7.out) (Fr.of8 HO7.out)).mono ?_)
      rintro e w8 ⟨A7, n7, c7, B7, m7, k7, rfl, hf1, hf2, hb8⟩
      have HF := Lib.hid (And.intro hf1 hf2)
      have HB8 := Lib.hid (bt HB7.out hb8)
      clear hf1 hf2 hb8
      have hb9 : Below w8.heap.size w8 (w8.alloc (.cells #[.slice A7 n7 c7, .slice B7 m7 k7] 33)) := (Below.refl _ w8).alloc (Nat.le_refl _) _
      have HB9 := Lib.hid (bt HB8.out hb9)
      cases r0 with
      | some r =>
        have hbox := row_new w8 #[.slice A7 n7 c7, .slice B7 m7 k7] 33
        have y0 := hbox.cellQ 0 _ rfl
        have y1 := hbox.cellQ 1 _ rfl
        clear hbox
        have hres := Row.belowS HROW0.out HB9.out (Nat.le_refl _)
        have x0 := hres.cellQ 0 _ rfl
        have x1 := hres.cellQ 1 _ rfl
        have f0 := hres.frozen 0
        have f1 := hres.frozen 1
        have HROWF := Lib.hid (show ∀ u v, Row (setFrom w.heap.size (w8.alloc (.cells #[.slice A7 n7 c7, .slice B7 m7 k7] 33)) 0 [u, v]) w.heap.size #[u, v] 33 from fun u v => hres.all [u, v] rfl)
        have HFF := Lib.hid (And.intro (HF.out.1.keep hb9) (HF.out.2.keep hb9))
        clear hres
        go_wp2
        generalize hwd : World.setCell (World.setCell (w8.alloc (.cells #[.slice A7 n7 c7, .slice B7 m7 k7] 33)) _ _) _ _ = wd
        have hsf : setFrom w.heap.size (w8.alloc (.cells #[.slice A7 n7 c7, .slice B7 m7 k7] 33)) 0 [.slice A7 n7 c7, .slice B7 m7 k7] = wd := by rw [← hwd]; rfl
        have r0 : wd.cell? ⟨w.heap.size, 0, none⟩ = some (.slice A7 n7 c7) := by rw [← hsf]; exact (HROWF.out _ _).cellQ 0 _ rfl
        have r1 : wd.cell? ⟨w.heap.size, 1, none⟩ = some (.slice B7 m7 k7) := by rw [← hsf]; exact (HROWF.out _ _).cellQ 1 _ rfl
        refine bodyPost_ret (v := .tuple #[.agg #[.slice A7 n7 c7, .slice B7 m7 k7], .bool true]) (by simp [results, Tryd.results69, go_sem, r0, r1]) rfl ?_
        rw [HE.out]
        exact ⟨A7, n7, c7, B7, m7, k7, rfl, by rw [← hsf]; exact (HFF.out.1.set HLT.out _ 0).base (Nat.le_of_lt HLT.out), by rw [← hsf]; exact (HFF.out.2.set HLT.out _ 0).base (Nat.le_of_lt HLT.out), by rw [← hsf]; exact below_setFrom (Nat.le_refl _) _ 0 (bt HB0.out HB9.out)⟩
      | none =>
        clear hb9 HF
        go_wp2_with (refine wl_cutS_hi rfl (.tmp 68) (.tmp 69) rfl rfl (HSA.out _ (bt HB0.out HB9.out)) k0 rfl (by omega) ?_; intro A9 h9; have H9 := Lib.hid h9; clear h9)
        (with_reducible refine (CI.out A9 _ A2 _ _ (bt HB0.out HB9.out) H9.out (by have := H2.out.keep HB9.out; exact ⟨this.rd.more (HB9.out).size, this.len, this.cap, this.max⟩)).mono ?_)
        rintro e w10 ⟨A11, n11, c11, B11, m11, k11, rfl, hf1, hf2, hb10⟩
        have HBX := Lib.hid (bt HB9.out hb10)
        have HF9 := Lib.hid (And.intro (hf1.base (HB9.out).size) (hf2.base (HB9.out).size))
        clear hf1 hf2 hb10
        have hres := Row.belowS HROW0.out HBX.out (Nat.le_refl _)
        have x0 := hres.cellQ 0 _ rfl
        have x1 := hres.cellQ 1 _ rfl
        have f0 := hres.frozen 0
        have f1 := hres.frozen 1
        have HROWF := Lib.hid (show ∀ u v, Row (setFrom w.heap.size w10 0 [u, v]) w.heap.size #[u, v] 33 from fun u v => hres.all [u, v] rfl)
        have HFF := Lib.hid (And.intro (HF9.out.1) (HF9.out.2))
        clear hres
        go_wp2
        generalize hwd : World.setCell (World.setCell w10 _ _) _ _ = wd
        have hsf : setFrom w.heap.size w10 0 [.slice A11 n11 c11, .slice B11 m11 k11] = wd := by rw [← hwd]; rfl
        have r0 : wd.cell? ⟨w.heap.size, 0, none⟩ = some (.slice A11 n11 c11) := by rw [← hsf]; exact (HROWF.out _ _).cellQ 0 _ rfl
        have r1 : wd.cell? ⟨w.heap.size, 1, none⟩ = some (.slice B11 m11 k11) := by rw [← hsf]; exact (HROWF.out _ _).cellQ 1 _ rfl
        refine bodyPost_ret (v := .tuple #[.agg #[.slice A11 n11 c11, .slice B11 m11 k11], .bool rst.isSome]) (by simp [results, Tryd.results69, go_sem, r0, r1]) rfl ?_
        rw [HE.out]
        exact ⟨A11, n11, c11, B11, m11, k11, rfl, by rw [← hsf]; exact (HFF.out.1.set HLT.out _ 0).base (Nat.le_of_lt HLT.out), by rw [← hsf]; exact (HFF.out.2.set HLT.out _ 0).base (Nat.le_of_lt HLT.out), by rw [← hsf]; exact below_setFrom (Nat.le_refl _) _ 0 (bt HB0.out HBX.out)⟩
    · have hlz : ¬ (m : Int) ≤ (k0 : Int) := by omega
      have hrr : (Cons.roots tnd [] (m - k0) (n - k0) false one p0).2.2 = true := by
        have h := hrt
        rw [Cons.roots_right _ _ (by omega) hne (by rw [hk]; exact hlt), hk] at h
        exact h
      obtain ⟨rst, hrst⟩ : ∃ r, Cl.fr one q (m - k0) (n - k0) false (a.drop k0) p0 = r := ⟨_, rfl⟩
      obtain ⟨Z, hZ⟩ : ∃ Z, (Cons.roots tnd [] (m - k0) (n - k0) false one p0).2.1 = Z := ⟨_, rfl⟩
      have hZl : Z.length = 32 := by rw [← hZ]; exact (roots_len32 h1l h320 (by omega) (by omega) hrr).2
      obtain ⟨T, hT⟩ : ∃ T, Cl.topB a = T := ⟨_, rfl⟩
      have hTl : T.length ≤ 1000 := by rw [← hT]; exact topB_le h32a
      obtain ⟨r0, hr0⟩ : ∃ r, Cl.btw (1 :: (d ++ Z)) T = r := ⟨_, rfl⟩
      have HE := Lib.hid (show Cl.fr one (q + 1) m n wh a (p0 ++ [d]) = r0.or rst by
        rw [Cl.fr, if_neg hne, hk, if_neg hlt, hdl, hgl, hZ, hT, hr0, hrst])
      have CRS := Lib.hid (show ∀ (A' : Option Addr) (c' : Nat) (W : World), Below w.heap.size w W → Sb W W.heap.size A' k1 c' p0 → Calls Tryd.prog 87 #[.int .i64 ((m : Int) - (k0 : Int)), .int .i64 ((n : Int) - (k0 : Int)), .bool false, sv one, .slice A' k1 c'] W (RootsPost (Cons.roots tnd [] (m - k0) (n - k0) false one p0) W) from fun A' c' W hW h => by
        rw [show ((m : Int) - (k0 : Int)) = ((m - k0 : Nat) : Int) by omega, show ((n : Int) - (k0 : Int)) = ((n - k0 : Nat) : Int) by omega]; exact roots_any _ (m - k0) (n - k0) false one A' k1 c' p0 W (Nat.le_refl _) (by omega) (by omega) (by omega) (by omega) (h.ss (Nat.le_refl _)) h320)
      unfold RootsPost at CRS
      rw [hZ] at CRS
      have CX := Lib.hid (fun (W : World) => xbytes_any d Z W (by omega) (by omega))
      unfold Ret8 at CX
      have CT := Lib.hid (show ∀ (W : World), Below w.heap.size w W → Calls Tryd.prog 45 #[.slice A n cA] W (Ret8 W.heap.size T W) from fun W hW => by
        rw [← hT]; exact rtop_any A n cA a W (hsa.keep hW) h32a (by omega) (by omega))
      unfold Ret8 at CT
      have CB := Lib.hid (fun (L : Nat) (A : Option Addr) (n c : Nat) (B : Option Addr) (m' k' : Nat) (W : World) (hL : L ≤ W.heap.size) (hA : Fr W L A n c (1 :: (d ++ Z))) (hB : Fr W L B m' k' T) => by
        have := rbetw_any L A n c B m' k' (1 :: (d ++ Z)) T W hL hA (by rw [← hA.len, List.length_cons, List.length_append]; omega) hB (by rw [← hB.len]; omega)
        rw [hr0] at this
        exact this)
      have CI := Lib.hid (show ∀ (A' : Option Addr) (cA' : Nat) (A2 : Option Addr) (c2 : Nat) (W : World), Below w.heap.size w W → Ss W A' (n - k0) cA' (a.drop k0) → Sb W W.heap.size A2 k1 c2 p0 → Calls Tryd.prog 69 #[.slice A' (n - k0) cA', .int .i64 ((m : Int) - (k0 : Int)), .int .i64 ((n : Int) - (k0 : Int)), .bool false, sv one, .slice A2 k1 c2] W (ResPost W.heap.size rst W) from fun A' cA' A2 c2 W hW h1 h2 => by
        rw [show ((m : Int) - (k0 : Int)) = ((m - k0 : Nat) : Int) by omega, show ((n : Int) - (k0 : Int)) = ((n - k0 : Nat) : Int) by omega]; have := rfresh_any q A' cA' (a.drop k0) (m - k0) (n - k0) false one A2 k1 c2 p0 W (by omega) (by omega) (by omega) (by omega) h1 (all_drop h32a k0) h1l (h2.ss (Nat.le_refl _)) h320 hrr
        rw [hrst] at this
        exact this)
      clear hrr hrst h32a h1l h320 hdl hgl hk hrt hsa hZ hZl hT hTl hr0
      go_enter Tryd.func69, Tryd.ntmps69
      go_wp2_with fail
      rw [HW1.out]
      (with_reducible refine (rsplit_any (n : Int) w1 (by omega) (by omega)).mono ?_)
      rintro e wz ⟨rfl, rfl⟩
      rw [HSP.out]
      have z0 := HX.out w1 HB0.out
      go_upto_region 12 with (refine wl_cutB_hi rfl (.tmp 39) (.tmp 42) rfl rfl (HSB.out w1 HB0.out) k1 (by go_num) (by omega) ?_; intro A2 h2'; rw [HTK.out] at h2'; have H2 := Lib.hid h2'; clear h2' z0)
      go_wp2_with fail
      (with_reducible refine (CRS.out A2 _ w1 HB0.out H2.out).mono ?_)
      rintro e w5 ⟨rfl, hb5⟩
      have HB5 := Lib.hid hb5
      clear hb5
      go_wp2_with fail
      (with_reducible refine (CX.out w5).mono ?_)
      rintro e w6 ⟨An, nn, cn, rfl, ho6, hb6⟩
      have HN6 := Lib.hid (ho6.base HB5.out.size)
      have HB6 := Lib.hid (bt HB5.out hb6)
      clear hb6 ho6
      go_wp2_with fail
      (with_reducible refine (CT.out w6 (bt HB0.out HB6.out)).mono ?_)
      rintro e w7 ⟨At, nt, ct, rfl, ho7, hb7⟩
      have HO7 := Lib.hid (ho7.base HB6.out.size)
      have HN7 := Lib.hid (HN6.out.keep hb7)
      have HB7 := Lib.hid (bt HB6.out hb7)
      clear hb7 ho7
      go_wp2_with fail
      (with_reducible refine (CB.out w1.heap.size An nn cn At nt ct w7 HB7.out.size (Fr.of8 HN7.out) (Fr.of8 HO7.out)).mono ?_)
      rintro e w8 ⟨A7, n7, c7, B7, m7, k7, rfl, hf1, hf2, hb8⟩
      have HF := Lib.hid (And.intro hf1 hf2)
      have HB8 := Lib.hid (bt HB7.out hb8)
      clear hf1 hf2 hb8
      have hb9 : Below w8.heap.size w8 (w8.alloc (.cells #[.slice A7 n7 c7, .slice B7 m7 k7] 33)) := (Below.refl _ w8).alloc (Nat.le_refl _) _
      have HB9 := Lib.hid (bt HB8.out hb9)
      cases r0 with
      | some r =>
        have hbox := row_new w8 #[.slice A7 n7 c7, .slice B7 m7 k7] 33
        have y0 := hbox.cellQ 0 _ rfl
        have y1 := hbox.cellQ 1 _ rfl
        clear hbox
        have hres := Row.belowS HROW0.out HB9.out (Nat.le_refl _)
        have x0 := hres.cellQ 0 _ rfl
        have x1 := hres.cellQ 1 _ rfl
        have f0 := hres.frozen 0
        have f1 := hres.frozen 1
        have HROWF := Lib.hid (show ∀ u v, Row (setFrom w.heap.size (w8.alloc (.cells #[.slice A7 n7 c7, .slice B7 m7 k7] 33)) 0 [u, v]) w.heap.size #[u, v] 33 from fun u v => hres.all [u, v] rfl)
        have HFF := Lib.hid (And.intro (HF.out.1.keep hb9) (HF.out.2.keep hb9))
        clear hres
        go_wp2
        generalize hwd : World.setCell (World.setCell (w8.alloc (.cells #[.slice A7 n7 c7, .slice B7 m7 k7] 33)) _ _) _ _ = wd
        have hsf : setFrom w.heap.size (w8.alloc (.cells #[.slice A7 n7 c7, .slice B7 m7 k7] 33)) 0 [.slice A7 n7 c7, .slice B7 m7 k7] = wd := by rw [← hwd]; rfl
        have r0 : wd.cell? ⟨w.heap.size, 0, none⟩ = some (.slice A7 n7 c7) := by rw [← hsf]; exact (HROWF.out _ _).cellQ 0 _ rfl
        have r1 : wd.cell? ⟨w.heap.size, 1, none⟩ = some (.slice B7 m7 k7) := by rw [← hsf]; exact (HROWF.out _ _).cellQ 1 _ rfl
        refine bodyPost_ret (v := .tuple #[.agg #[.slice A7 n7 c7, .slice B7 m7 k7], .bool true]) (by simp [results, Tryd.results69, go_sem, r0, r1]) rfl ?_
        rw [HE.out]
        exact ⟨A7, n7, c7, B7, m7, k7, rfl, by rw [← hsf]; exact (HFF.out.1.set HLT.out _ 0).base (Nat.le_of_lt HLT.out), by rw [← hsf]; exact (HFF.out.2.set HLT.out _ 0).base (Nat.le_of_lt HLT.out), by rw [← hsf]; exact below_setFrom (Nat.le_refl _) _ 0 (bt HB0.out HB9.out)⟩
      | none =>
        clear hb9 HF
        go_wp2_with (refine wl_cutS_lo rfl (.tmp 103) (.tmp 104) rfl rfl (HSA.out _ (bt HB0.out HB9.out)) k0 rfl (by omega) ?_; intro A9 h9; have H9 := Lib.hid h9; clear h9)
        (with_reducible refine (CI.out A9 _ A2 _ _ (bt HB0.out HB9.out) H9.out (by have := H2.out.keep HB9.out; exact ⟨this.rd.more (HB9.out).size, this.len, this.cap, this.max⟩)).mono ?_)
        rintro e w10 ⟨A11, n11, c11, B11, m11, k11, rfl, hf1, hf2, hb10⟩
        have HBX := Lib.hid (bt HB9.out hb10)
        have HF9 := Lib.hid (And.intro (hf1.base (HB9.out).size) (hf2.base (HB9.out).size))
        clear hf1 hf2 hb10
        have hres := Row.belowS HROW0.out HBX.out (Nat.le_refl _)
        have x0 := hres.cellQ 0 _ rfl
        have x1 := hres.cellQ 1 _ rfl
        have f0 := hres.frozen 0
        have f1 := hres.frozen 1
        have HROWF := Lib.hid (show ∀ u v, Row (setFrom w.heap.size w10 0 [u, v]) w.heap.size #[u, v] 33 from fun u v => hres.all [u, v] rfl)
        have HFF := Lib.hid (And.intro (HF9.out.1) (HF9.out.2))
        clear hres
        go_wp2
        generalize hwd : World.setCell (World.setCell w10 _ _) _ _ = wd
        have hsf : setFrom w.heap.size w10 0 [.slice A11 n11 c11, .slice B11 m11 k11] = wd := by rw [← hwd]; rfl
        have r0 : wd.cell? ⟨w.heap.size, 0, none⟩ = some (.slice A11 n11 c11) := by rw [← hsf]; exact (HROWF.out _ _).cellQ 0 _ rfl
        have r1 : wd.cell? ⟨w.heap.size, 1, none⟩ = some (.slice B11 m11 k11) := by rw [← hsf]; exact (HROWF.out _ _).cellQ 1 _ rfl
        refine bodyPost_ret (v := .tuple #[.agg #[.slice A11 n11 c11, .slice B11 m11 k11], .bool rst.isSome]) (by simp [results, Tryd.results69, go_sem, r0, r1]) rfl ?_
        rw [HE.out]
        exact ⟨A11, n11, c11, B11, m11, k11, rfl, by rw [← hsf]; exact (HFF.out.1.set HLT.out _ 0).base (Nat.le_of_lt HLT.out), by rw [← hsf]; exact (HFF.out.2.set HLT.out _ 0).base (Nat.le_of_lt HLT.out), by rw [← hsf]; exact below_setFrom (Nat.le_refl _) _ 0 (bt HB0.out HBX.out)⟩
end Go.Proofs.YtlcdpbpbfofmmaaDoor

namespace Go.Proofs.YtlcdpbpbfofmmaaDoor
set_option maxRecDepth 100000
set_option linter.unusedVariables false
open Go.RowKit
theorem rTwo_two (A : Option Addr) (n ca : Nat) (f : Nat → Piece) (B : Option Addr) (cb : Nat) (g : Nat → Piece) (w : World) (h1 : 1 ≤ n) (hn : n ≤ 300) (hra : RowsAt w A n f) (hca : n ≤ ca ∧ ca ≤ maxLen) (hrb : RowsAt w B n g) (hcb : n ≤ cb ∧ cb ≤ maxLen) (hsf : ∀ i, i < n → (f i).n ≤ 1000) (hsg : ∀ i, i < n → (g i).n ≤ 1000) :
    Calls Tryd.prog 28 #[.slice A n ca, .slice B n cb] w (ResPost w.heap.size (Cl.two (raws f n) (raws g n)) w) := by
  unfold Cl.two
  rw [raws_len]
  exact rtwo_any n A n ca f B cb g w (Nat.le_refl _) h1 hn hra hca hrb hcb hsf hsg
set_option maxHeartbeats 32000000 in
theorem rparts_any : ∀ (q : Nat) (A : Option Addr) (ca : Nat) (f : Nat → Piece) (B : Option Addr) (nb cb : Nat) (g : Nat → Piece) (m n : Nat) (w : World), n ≤ q → 1 ≤ m → m ≤ n → n ≤ nb → nb ≤ 300 → RowsAt w A m f → (m ≤ ca ∧ ca ≤ maxLen) → RowsAt w B nb g → (nb ≤ cb ∧ cb ≤ maxLen) →
    (∀ i, i < m → (f i).n ≤ 1000) → (∀ i, i < nb → (g i).n ≤ 1000) →
    Calls Tryd.prog 70 #[.slice A m ca, .slice B nb cb, .int .i64 (m : Int), .int .i64 (n : Int)] w (ResPost w.heap.size (Cl.pa q m n (raws f m) (raws g nb)) w)
  | 0, A, ca, f, B, nb, cb, g, m, n, w, hq, h1, hmn, hnb, hn, hra, hca, hrb, hcb, hsf, hsg => by omega
  | q + 1, A, ca, f, B, nb, cb, g, m, n, w, hq, h1, hmn, hnb, hn, hra, hca, hrb, hcb, hsf, hsg => by
    have HB0 := Lib.hid (show Below w.heap.size w (w.alloc (.cells #[.slice none 0 0, .slice none 0 0] 33)) from (Below.refl _ w).alloc (Nat.le_refl _) _)
    have HROW0 := Lib.hid (row_new w #[.slice none 0 0, .slice none 0 0] 33)
    have hlt0 : w.heap.size < (w.alloc (.cells #[.slice none 0 0, .slice none 0 0] 33)).heap.size := by unfold World.alloc; simp
    obtain ⟨w1, hw1⟩ : ∃ w1, (w.alloc (.cells #[.slice none 0 0, .slice none 0 0] 33)) = w1 := ⟨_, rfl⟩
    have HW1 := Lib.hid hw1
    rw [hw1] at HB0 HROW0 hlt0
    have HLT := Lib.hid hlt0
    have HRA := Lib.hid (show ∀ W, Below w.heap.size w W → RowsAt W A m f from fun W hW => hra.keep hW)
    have HRB := Lib.hid (show ∀ W, Below w.heap.size w W → RowsAt W B nb g from fun W hW => hrb.keep hW)
    obtain ⟨hc1, hm1⟩ := hca
    obtain ⟨hc2, hm2⟩ := hcb
    rw [maxLen_eq] at hm1 hm2
    have TW := Lib.hid (show ∀ (k' : Nat) (A' : Option Addr) (ca' : Nat) (B' : Option Addr) (cb' : Nat) (W : World), 1 ≤ k' → k' ≤ m → k' ≤ nb → Below w.heap.size w W → RowsAt W A' k' f → (k' ≤ ca' ∧ ca' ≤ maxLen) → RowsAt W B' k' g → (k' ≤ cb' ∧ cb' ≤ maxLen) → Calls Tryd.prog 28 #[.slice A' k' ca', .slice B' k' cb'] W (ResPost W.heap.size (Cl.two (raws f k') (raws g k')) W) from fun k' A' ca' B' cb' W h2 h3 h4 hW g1 g2 g3 g4 =>
      rTwo_two A' k' ca' f B' cb' g W h2 (by omega) g1 g2 g3 g4 (fun i hi => hsf i (by omega)) (fun i hi => hsg i (by omega)))
    by_cases hne : m = n
    · subst hne
      obtain ⟨rz, hrz⟩ : ∃ r, Cl.two (raws f m) (raws g m) = r := ⟨_, rfl⟩
      have HE := Lib.hid (show Cl.pa (q + 1) m m (raws f m) (raws g nb) = rz by rw [Cl.pa, if_pos rfl, raws_take f m m (Nat.le_refl _), raws_take g nb m hnb, hrz])
      have TW2 := Lib.hid (show ∀ (A' : Option Addr) (ca' : Nat) (B' : Option Addr) (cb' : Nat) (W : World), Below w.heap.size w W → RowsAt W A' m f → (m ≤ ca' ∧ ca' ≤ maxLen) → RowsAt W B' m g → (m ≤ cb' ∧ cb' ≤ maxLen) → Calls Tryd.prog 28 #[.slice A' m ca', .slice B' m cb'] W (ResPost W.heap.size rz W) from fun A' ca' B' cb' W hW g1 g2 g3 g4 => by
        rw [← hrz]; exact TW.out m A' ca' B' cb' W h1 (Nat.le_refl _) hnb hW g1 g2 g3 g4)
      clear hra hrb hsf hsg hrz hw1 hlt0
      have HBY := Lib.hid (HB0.out)
      have HSZ := Lib.hid (show w1.heap.size ≤ w1.heap.size from Nat.le_refl _)
      have HRAy := Lib.hid (fun (W : World) (hW : Below w1.heap.size w1 W) => HRA.out W (bt HBY.out hW))
      have HRBy := Lib.hid (fun (W : World) (hW : Below w1.heap.size w1 W) => HRB.out W (bt HBY.out hW))
      go_enter Tryd.func70, Tryd.ntmps70
      go_wp2_with fail
      rw [HW1.out]
      refine Free.wp_free_l 9 (fun W => Below w1.heap.size w1 W) [Free.kc (.slice A m ca), Free.kc (.int .i64 (m : Int)), Free.kr (m) (((List.range m).map fun i => pv (f i)).take m), Free.kc (.slice B nb cb), Free.kc (.int .i64 (m : Int)), Free.kr (m) (((List.range nb).map fun i => pv (g i)).take m), Free.kR (w1.heap.size) (rz), Free.kG (w1.heap.size) (rz), Free.kc (.bool (rz).isSome)] (by kernel_rfl) (by kernel_rfl) (by decide) (Below.refl _ _).drew (fun w w' h g => bt h g) ?_ ?_
      · refine Free.forall_succ (Free.forall_succ (Free.forall_succ (Free.forall_succ (Free.forall_succ (Free.forall_succ (Free.forall_succ (Free.forall_succ (Free.forall_succ (Free.forall_zero) ?_) ?_) ?_) ?_) ?_) ?_) ?_) ?_) ?_
        · exact Free.ob_plain _ rfl rfl fun vals wq hC hd => (by exact Free.d_move rfl (by kernel_rfl) rfl)
        · exact Free.ob_plain _ rfl rfl fun vals wq hC hd => (by exact Free.d_move rfl (by kernel_rfl) rfl)
        · exact Free.ob_plain _ rfl rfl fun vals wq hC hd => (by exact (by obtain ⟨A', hrun, hss⟩ := run_cutR_hi (n := m) (c := ca) (rows_rd (HRAy.out wq hC)) (by simp) (by omega) m (by omega); exact Free.d_slice rfl (Eq.trans (b := vals 0) (by kernel_rfl) (hd 0 (by kernel_rfl))) rfl (show _ = some (Value.int .i64 (m : Int)) from congrArg some (Eq.trans (b := vals 1) (by kernel_rfl) (hd 1 (by kernel_rfl)))) rfl hrun ⟨A', ca, rfl, hss, by omega, by rw [maxLen_eq]; omega⟩))
        · exact Free.ob_plain _ rfl rfl fun vals wq hC hd => (by exact Free.d_move rfl (by kernel_rfl) rfl)
        · exact Free.ob_plain _ rfl rfl fun vals wq hC hd => (by exact Free.d_move rfl (by kernel_rfl) rfl)
        · exact Free.ob_plain _ rfl rfl fun vals wq hC hd => (by exact (by obtain ⟨A', hrun, hss⟩ := run_cutR_hi (n := nb) (c := cb) (rows_rd (HRBy.out wq hC)) (by simp) (by omega) m (by omega); exact Free.d_slice rfl (Eq.trans (b := vals 3) (by kernel_rfl) (hd 3 (by kernel_rfl))) rfl (show _ = some (Value.int .i64 (m : Int)) from congrArg some (Eq.trans (b := vals 4) (by kernel_rfl) (hd 4 (by kernel_rfl)))) rfl hrun ⟨A', cb, rfl, hss, by omega, by rw [maxLen_eq]; omega⟩))
        · exact Free.ob_plain _ rfl rfl fun vals wq hC hd => (by obtain ⟨A2, k2, e2, rd2, le2, mx2⟩ := hd 2 (by kernel_rfl); obtain ⟨A5, k5, e5, rd5, le5, mx5⟩ := hd 5 (by kernel_rfl); exact Free.d_call Tryd.func28 (by kernel_rfl) (by kernel_rfl) rfl rfl (Free.arg2 (Eq.trans (b := vals 2) (by kernel_rfl) e2) (Eq.trans (b := vals 5) (by kernel_rfl) e5)) ((TW2.out A2 k2 A5 k5 wq (bt HBY.out hC) (rd_rows rd2 (fun i hi => by rw [List.getElem?_take_of_lt hi, List.getElem?_map, List.getElem?_range (by omega)]; rfl) (fun i hi => rows_pc (HRAy.out wq hC) (by omega))) ⟨le2, mx2⟩ (rd_rows rd5 (fun i hi => by rw [List.getElem?_take_of_lt hi, List.getElem?_map, List.getElem?_range (by omega)]; rfl) (fun i hi => rows_pc (HRBy.out wq hC) (by omega))) ⟨le5, mx5⟩).mono fun e w2 h => (by obtain ⟨A7, n7, c7, B7, m7, k7, he, h1, h2, hb⟩ := h; exact ⟨_, he, ⟨_, rfl, ⟨A7, n7, c7, B7, m7, k7, rfl, h1.base (Nat.le_trans HSZ.out hC.size), h2.base (Nat.le_trans HSZ.out hC.size)⟩⟩, hb⟩)))
        · exact Free.ob_plain _ rfl rfl fun vals wq hC hd => (by obtain ⟨v6, e6, pd6⟩ := hd 6 (by kernel_rfl); exact (by obtain ⟨A7, n7, c7, B7, m7, k7, he7, h1, h2⟩ := pd6; exact Free.d_extract rfl (Eq.trans (Eq.trans (b := vals 6) (by kernel_rfl) e6) he7) (by first | rfl | (go_simp; done)) ⟨_, rfl, ⟨A7, n7, c7, B7, m7, k7, rfl, h1, h2⟩⟩))
        · exact Free.ob_plain _ rfl rfl fun vals wq hC hd => (by obtain ⟨v6, e6, pd6⟩ := hd 6 (by kernel_rfl); exact (by obtain ⟨A7, n7, c7, B7, m7, k7, he7, h1, h2⟩ := pd6; exact Free.d_extract rfl (Eq.trans (Eq.trans (b := vals 6) (by kernel_rfl) e6) he7) (by first | rfl | (go_simp; done)) rfl))
      · intro vals wq hC hd
        have e0 : vals 0 = (.slice A m ca) := hd 0 (by decide)
        have e1 : vals 1 = (.int .i64 (m : Int)) := hd 1 (by decide)
        obtain ⟨A2, k2, e2, rd2, le2, mx2⟩ := hd 2 (by decide)
        have e3 : vals 3 = (.slice B nb cb) := hd 3 (by decide)
        have e4 : vals 4 = (.int .i64 (m : Int)) := hd 4 (by decide)
        obtain ⟨A5, k5, e5, rd5, le5, mx5⟩ := hd 5 (by decide)
        obtain ⟨v6, e6, pd6⟩ := hd 6 (by decide)
        obtain ⟨v7, e7, pd7⟩ := hd 7 (by decide)
        have e8 : vals 8 = (.bool (rz).isSome) := hd 8 (by decide)
        simp only [Free.frameOf, List.range, List.range.loop, List.foldl, Free.dstOf, List.getElem?_toArray, List.getElem?_cons_zero, List.getElem?_cons_succ, Option.bind_some, Act.put, List.setIfInBounds_toArray, List.set_cons_zero, List.set_cons_succ, e0, e1, e2, e3, e4, e5, e6, e7, e8]
        clear hd e0 e1 e2 e3 e4 e5 e6 e7 e8
        obtain ⟨A9, n9, c9, B9, m9, k9, rfl, hf1, hf2⟩ := pd7
        clear pd6 rd2 le2 mx2 rd5 le5 mx5
        have hres := Row.belowS HROW0.out hC (Nat.le_refl _)
        have x0 := hres.cellQ 0 _ rfl
        have x1 := hres.cellQ 1 _ rfl
        have f0 := hres.frozen 0
        have f1 := hres.frozen 1
        have HROWF := Lib.hid (show ∀ u v, Row (setFrom w.heap.size wq 0 [u, v]) w.heap.size #[u, v] 33 from fun u v => hres.all [u, v] rfl)
        have HFF := Lib.hid (And.intro (hf1) (hf2))
        clear hres
        go_wp2
        generalize hwd : World.setCell (World.setCell wq _ _) _ _ = wd
        have hsf : setFrom w.heap.size wq 0 [.slice A9 n9 c9, .slice B9 m9 k9] = wd := by rw [← hwd]; rfl
        have r0 : wd.cell? ⟨w.heap.size, 0, none⟩ = some (.slice A9 n9 c9) := by rw [← hsf]; exact (HROWF.out _ _).cellQ 0 _ rfl
        have r1 : wd.cell? ⟨w.heap.size, 1, none⟩ = some (.slice B9 m9 k9) := by rw [← hsf]; exact (HROWF.out _ _).cellQ 1 _ rfl
        refine bodyPost_ret (v := .tuple #[.agg #[.slice A9 n9 c9, .slice B9 m9 k9], .bool rz.isSome]) (by simp [results, Tryd.results70, go_sem, r0, r1]) rfl ?_
        rw [HE.out]
        exact ⟨A9, n9, c9, B9, m9, k9, rfl, by rw [← hsf]; exact (HFF.out.1.set HLT.out _ 0).base (Nat.le_of_lt HLT.out), by rw [← hsf]; exact (HFF.out.2.set HLT.out _ 0).base (Nat.le_of_lt HLT.out), by rw [← hsf]; exact below_setFrom (Nat.le_refl _) _ 0 (bt HB0.out hC)⟩
    have hb1 : ((m : Int) == (n : Int)) = false := beq_eq_false_iff_ne.2 (by omega)
    have h2 : 2 ≤ n := by omega
    obtain ⟨k0, hk⟩ : ∃ k0, Tree.sp n = k0 := ⟨_, rfl⟩
    have kp := Tree.sp_pos h2
    have kl := Tree.sp_lt h2
    rw [hk] at kp kl
    have HSP := Lib.hid (show Tree.spz (n : Int) = k0 by rw [Tree.spz_in h2 (by omega), hk])
    by_cases hlt : m ≤ k0
    · have hlz : (m : Int) ≤ (k0 : Int) := by omega
      obtain ⟨rst, hrst⟩ : ∃ r, Cl.pa q m k0 (raws f m) (raws g nb) = r := ⟨_, rfl⟩
      have HE := Lib.hid (show Cl.pa (q + 1) m n (raws f m) (raws g nb) = rst by rw [Cl.pa, if_neg hne, hk, if_pos hlt, hrst])
      have CI := Lib.hid (show ∀ (W : World), Below w.heap.size w W → Calls Tryd.prog 70 #[.slice A m ca, .slice B nb cb, .int .i64 (m : Int), .int .i64 (k0 : Int)] W (ResPost W.heap.size rst W) from fun W hW => by
        rw [← hrst]; exact rparts_any q A ca f B nb cb g m k0 W (by omega) h1 hlt (by omega) hn (hra.keep hW) ⟨hc1, by rw [maxLen_eq]; omega⟩ (hrb.keep hW) ⟨hc2, by rw [maxLen_eq]; omega⟩ hsf hsg)
      clear hra hrb hsf hsg hrst hk hw1 hlt0
      go_enter Tryd.func70, Tryd.ntmps70
      go_wp2_with fail
      rw [HW1.out]
      (with_reducible refine (rsplit_any (n : Int) w1 (by omega) (by omega)).mono ?_)
      rintro e wz ⟨rfl, rfl⟩
      rw [HSP.out]
      go_wp2_with fail
      (with_reducible refine (CI.out w1 HB0.out).mono ?_)
      rintro e w10 ⟨A11, n11, c11, B11, m11, k11, rfl, hf1, hf2, hb10⟩
      have HBX := Lib.hid hb10
      have HF9 := Lib.hid (And.intro hf1 hf2)
      clear hf1 hf2 hb10
      have hres := Row.belowS HROW0.out HBX.out (Nat.le_refl _)
      have x0 := hres.cellQ 0 _ rfl
      have x1 := hres.cellQ 1 _ rfl
      have f0 := hres.frozen 0
      have f1 := hres.frozen 1
      have HROWF := Lib.hid (show ∀ u v, Row (setFrom w.heap.size w10 0 [u, v]) w.heap.size #[u, v] 33 from fun u v => hres.all [u, v] rfl)
      have HFF := Lib.hid (And.intro (HF9.out.1) (HF9.out.2))
      clear hres
      go_wp2
      generalize hwd : World.setCell (World.setCell w10 _ _) _ _ = wd
      have hsf : setFrom w.heap.size w10 0 [.slice A11 n11 c11, .slice B11 m11 k11] = wd := by rw [← hwd]; rfl
      have r0 : wd.cell? ⟨w.heap.size, 0, none⟩ = some (.slice A11 n11 c11) := by rw [← hsf]; exact (HROWF.out _ _).cellQ 0 _ rfl
      have r1 : wd.cell? ⟨w.heap.size, 1, none⟩ = some (.slice B11 m11 k11) := by rw [← hsf]; exact (HROWF.out _ _).cellQ 1 _ rfl
      refine bodyPost_ret (v := .tuple #[.agg #[.slice A11 n11 c11, .slice B11 m11 k11], .bool rst.isSome]) (by simp [results, Tryd.results70, go_sem, r0, r1]) rfl ?_
      rw [HE.out]
      exact ⟨A11, n11, c11, B11, m11, k11, rfl, by rw [← hsf]; exact (HFF.out.1.set HLT.out _ 0).base (Nat.le_of_lt HLT.out), by rw [← hsf]; exact (HFF.out.2.set HLT.out _ 0).base (Nat.le_of_lt HLT.out), by rw [← hsf]; exact below_setFrom (Nat.le_refl _) _ 0 (bt HB0.out HBX.out)⟩
    · have hlz : ¬ (m : Int) ≤ (k0 : Int) := by omega
      obtain ⟨r1, hr1⟩ : ∃ r, Cl.two (raws f k0) (raws g k0) = r := ⟨_, rfl⟩
      obtain ⟨r2, hr2⟩ : ∃ r, Cl.pa q (m - k0) (n - k0) (raws (fun j => f (k0 + j)) (m - k0)) (raws (fun j => g (k0 + j)) (nb - k0)) = r := ⟨_, rfl⟩
      have HE := Lib.hid (show Cl.pa (q + 1) m n (raws f m) (raws g nb) = r1.or r2 by
        rw [Cl.pa, if_neg hne, hk, if_neg hlt, raws_take f m k0 (by omega), raws_take g nb k0 (by omega), raws_drop, raws_drop, hr1, hr2])
      have TW2 := Lib.hid (show ∀ (A' : Option Addr) (ca' : Nat) (B' : Option Addr) (cb' : Nat) (W : World), Below w.heap.size w W → RowsAt W A' k0 f → (k0 ≤ ca' ∧ ca' ≤ maxLen) → RowsAt W B' k0 g → (k0 ≤ cb' ∧ cb' ≤ maxLen) → Calls Tryd.prog 28 #[.slice A' k0 ca', .slice B' k0 cb'] W (ResPost W.heap.size r1 W) from fun A' ca' B' cb' W hW g1 g2 g3 g4 => by
        rw [← hr1]; exact TW.out k0 A' ca' B' cb' W (by omega) (by omega) (by omega) hW g1 g2 g3 g4)
      have IHR := Lib.hid (show ∀ (A' : Option Addr) (ca' : Nat) (B' : Option Addr) (cb' : Nat) (W : World), Below w.heap.size w W → RowsAt W A' (m - k0) (fun j => f (k0 + j)) → (m - k0 ≤ ca' ∧ ca' ≤ maxLen) → RowsAt W B' (nb - k0) (fun j => g (k0 + j)) → (nb - k0 ≤ cb' ∧ cb' ≤ maxLen) → Calls Tryd.prog 70 #[.slice A' (m - k0) ca', .slice B' (nb - k0) cb', .int .i64 ((m : Int) - (k0 : Int)), .int .i64 ((n : Int) - (k0 : Int))] W (ResPost W.heap.size r2 W) from fun A' ca' B' cb' W hW g1 g2 g3 g4 => by
        rw [show ((m : Int) - (k0 : Int)) = ((m - k0 : Nat) : Int) by omega, show ((n : Int) - (k0 : Int)) = ((n - k0 : Nat) : Int) by omega, ← hr2]
        exact rparts_any q A' ca' (fun j => f (k0 + j)) B' (nb - k0) cb' (fun j => g (k0 + j)) (m - k0) (n - k0) W (by omega) (by omega) (by omega) (by omega) (by omega) g1 g2 g3 g4 (fun i hi => hsf _ (by omega)) (fun i hi => hsg _ (by omega)))
      clear hra hrb hsf hsg hr1 hr2 hk hw1 hlt0
      have HBY := Lib.hid (HB0.out)
      have HSZ := Lib.hid (show w1.heap.size ≤ w1.heap.size from Nat.le_refl _)
      have HRAy := Lib.hid (fun (W : World) (hW : Below w1.heap.size w1 W) => HRA.out W (bt HBY.out hW))
      have HRBy := Lib.hid (fun (W : World) (hW : Below w1.heap.size w1 W) => HRB.out W (bt HBY.out hW))
      go_enter Tryd.func70, Tryd.ntmps70
      go_wp2_with fail
      rw [HW1.out]
      (with_reducible refine (rsplit_any (n : Int) w1 (by omega) (by omega)).mono ?_)
      rintro e wz ⟨rfl, rfl⟩
      rw [HSP.out]
      go_wp2_with fail
      refine Free.wp_late_l 11 9 46 _ _ (fun W => Below w1.heap.size w1 W) [Free.kc (.slice A m ca), Free.kc (.int .i64 (k0 : Int)), Free.kr (k0) (((List.range m).map fun i => pv (f i)).take k0), Free.kc (.slice B nb cb), Free.kc (.int .i64 (k0 : Int)), Free.kr (k0) (((List.range nb).map fun i => pv (g i)).take k0), Free.kR (w1.heap.size) (r1), Free.kR (w1.heap.size) (r1), Free.kG (w1.heap.size) (r1), Free.kc (.bool (r1).isSome), Free.kA (w1.heap.size) (33) (#[.slice none 0 0, .slice none 0 0])] (by kernel_rfl) (by kernel_rfl) (by kernel_rfl) rfl rfl (Below.refl _ _).drew (fun w w' h g => bt h g) ?_ ?_ ?_
      · refine Free.forall_succ (Free.forall_succ (Free.forall_succ (Free.forall_succ (Free.forall_succ (Free.forall_succ (Free.forall_succ (Free.forall_succ (Free.forall_succ (Free.forall_succ (Free.forall_succ (Free.forall_zero) ?_) ?_) ?_) ?_) ?_) ?_) ?_) ?_) ?_) ?_) ?_
        · exact Free.ob_plain _ rfl rfl fun vals wq hC hd => (by exact Free.d_move rfl (by kernel_rfl) rfl)
        · exact Free.ob_plain _ rfl rfl fun vals wq hC hd => (by exact Free.d_move rfl (by kernel_rfl) rfl)
        · exact Free.ob_plain _ rfl rfl fun vals wq hC hd => (by exact (by obtain ⟨A', hrun, hss⟩ := run_cutR_hi (n := m) (c := ca) (rows_rd (HRAy.out wq hC)) (by simp) (by omega) k0 (by omega); exact Free.d_slice rfl (Eq.trans (b := vals 0) (by kernel_rfl) (hd 0 (by kernel_rfl))) rfl (show _ = some (Value.int .i64 (k0 : Int)) from congrArg some (Eq.trans (b := vals 1) (by kernel_rfl) (hd 1 (by kernel_rfl)))) rfl hrun ⟨A', ca, rfl, hss, by omega, by rw [maxLen_eq]; omega⟩))
        · exact Free.ob_plain _ rfl rfl fun vals wq hC hd => (by exact Free.d_move rfl (by kernel_rfl) rfl)
        · exact Free.ob_plain _ rfl rfl fun vals wq hC hd => (by exact Free.d_move rfl (by kernel_rfl) rfl)
        · exact Free.ob_plain _ rfl rfl fun vals wq hC hd => (by exact (by obtain ⟨A', hrun, hss⟩ := run_cutR_hi (n := nb) (c := cb) (rows_rd (HRBy.out wq hC)) (by simp) (by omega) k0 (by omega); exact Free.d_slice rfl (Eq.trans (b := vals 3) (by kernel_rfl) (hd 3 (by kernel_rfl))) rfl (show _ = some (Value.int .i64 (k0 : Int)) from congrArg some (Eq.trans (b := vals 4) (by kernel_rfl) (hd 4 (by kernel_rfl)))) rfl hrun ⟨A', cb, rfl, hss, by omega, by rw [maxLen_eq]; omega⟩))
        · exact Free.ob_plain _ rfl rfl fun vals wq hC hd => (by obtain ⟨A2, k2, e2, rd2, le2, mx2⟩ := hd 2 (by kernel_rfl); obtain ⟨A5, k5, e5, rd5, le5, mx5⟩ := hd 5 (by kernel_rfl); exact Free.d_call Tryd.func28 (by kernel_rfl) (by kernel_rfl) rfl rfl (Free.arg2 (Eq.trans (b := vals 2) (by kernel_rfl) e2) (Eq.trans (b := vals 5) (by kernel_rfl) e5)) ((TW2.out A2 k2 A5 k5 wq (bt HBY.out hC) (rd_rows rd2 (fun i hi => by rw [List.getElem?_take_of_lt hi, List.getElem?_map, List.getElem?_range (by omega)]; rfl) (fun i hi => rows_pc (HRAy.out wq hC) (by omega))) ⟨le2, mx2⟩ (rd_rows rd5 (fun i hi => by rw [List.getElem?_take_of_lt hi, List.getElem?_map, List.getElem?_range (by omega)]; rfl) (fun i hi => rows_pc (HRBy.out wq hC) (by omega))) ⟨le5, mx5⟩).mono fun e w2 h => (by obtain ⟨A7, n7, c7, B7, m7, k7, he, h1, h2, hb⟩ := h; exact ⟨_, he, ⟨_, rfl, ⟨A7, n7, c7, B7, m7, k7, rfl, h1.base (Nat.le_trans HSZ.out hC.size), h2.base (Nat.le_trans HSZ.out hC.size)⟩⟩, hb⟩)))
        · exact Free.ob_plain _ rfl rfl fun vals wq hC hd => (by obtain ⟨v6, e6, pd6⟩ := hd 6 (by kernel_rfl); exact Free.d_move rfl (Eq.trans (b := vals 6) (by kernel_rfl) e6) ⟨_, rfl, pd6⟩)
        · exact Free.ob_plain _ rfl rfl fun vals wq hC hd => (by obtain ⟨v7, e7, pd7⟩ := hd 7 (by kernel_rfl); exact (by obtain ⟨A7, n7, c7, B7, m7, k7, he7, h1, h2⟩ := pd7; exact Free.d_extract rfl (Eq.trans (Eq.trans (b := vals 7) (by kernel_rfl) e7) he7) (by first | rfl | (go_simp; done)) ⟨_, rfl, ⟨A7, n7, c7, B7, m7, k7, rfl, h1, h2⟩⟩))
        · exact Free.ob_plain _ rfl rfl fun vals wq hC hd => (by obtain ⟨v7, e7, pd7⟩ := hd 7 (by kernel_rfl); exact (by obtain ⟨A7, n7, c7, B7, m7, k7, he7, h1, h2⟩ := pd7; exact Free.d_extract rfl (Eq.trans (Eq.trans (b := vals 7) (by kernel_rfl) e7) he7) (by first | rfl | (go_simp; done)) rfl))
        · exact Free.ob_plain _ rfl rfl fun vals wq hC hd => (by exact Free.d_alloc (z := .agg #[.slice none 0 0, .slice none 0 0]) rfl (by kernel_rfl) (Nat.le_trans HSZ.out hC.size))
      · intro vals wq hC hd
        have e0 : vals 0 = (.slice A m ca) := hd 0 (by decide)
        have e1 : vals 1 = (.int .i64 (k0 : Int)) := hd 1 (by decide)
        obtain ⟨A2, k2, e2, rd2, le2, mx2⟩ := hd 2 (by decide)
        have e3 : vals 3 = (.slice B nb cb) := hd 3 (by decide)
        have e4 : vals 4 = (.int .i64 (k0 : Int)) := hd 4 (by decide)
        obtain ⟨A5, k5, e5, rd5, le5, mx5⟩ := hd 5 (by decide)
        obtain ⟨v6, e6, pd6⟩ := hd 6 (by decide)
        obtain ⟨v7, e7, pd7⟩ := hd 7 (by decide)
        obtain ⟨v8, e8, pd8⟩ := hd 8 (by decide)
        have e9 : vals 9 = (.bool (r1).isSome) := hd 9 (by decide)
        obtain ⟨g10, e10, ge10, rw10⟩ := hd 10 (by decide)
        simp only [Free.frameOf, List.range, List.range.loop, List.foldl, Free.dstOf, List.getElem?_toArray, List.getElem?_cons_zero, List.getElem?_cons_succ, Option.bind_some, Act.put, List.setIfInBounds_toArray, List.set_cons_zero, List.set_cons_succ, e0, e1, e2, e3, e4, e5, e6, e7, e8, e9, e10]
        clear hd e0 e1 e2 e3 e4 e5 e6 e7 e8 e9 e10
        obtain ⟨A7x, n7x, c7x, B7x, m7x, k7x, rfl, hf1, hf2⟩ := pd8
        obtain ⟨Az, nz, cz, Bz, mz, kz, rfl, _, _⟩ := pd7
        have HFQ := Lib.hid (And.intro hf1 hf2)
        have HBQ := Lib.hid hC
        have x0 := rw10.cellQ 0 _ rfl
        have x1 := rw10.cellQ 1 _ rfl
        have f0 := rw10.frozen 0
        have f1 := rw10.frozen 1
        have HRW := Lib.hid rw10
        have HGE := Lib.hid ge10
        clear hf1 hf2 hC pd6 rd2 le2 mx2 rd5 le5 mx5 rw10 ge10
        go_upto_region 7 with fail
        generalize hwd : World.setCell (World.setCell wq _ _) _ _ = wd
        have hsf : setFrom g10 wq 0 [.slice A7x n7x c7x, .slice B7x m7x k7x] = wd := by rw [← hwd]; rfl
        have HROWB := Lib.hid (show Row wd g10 #[.slice A7x n7x c7x, .slice B7x m7x k7x] 33 by rw [← hsf]; exact HRW.out.all [.slice A7x n7x c7x, .slice B7x m7x k7x] rfl)
        have HBZ := Lib.hid (show Below w1.heap.size w1 wd by rw [← hsf]; exact below_setFrom HGE.out _ 0 HBQ.out)
        have HFZ := Lib.hid (show Fr wd w1.heap.size A7x n7x c7x (cl1 r1) ∧ Fr wd w1.heap.size B7x m7x k7x (cl2 r1) by rw [← hsf]; exact ⟨HFQ.out.1.setBox HRW.out _ 0, HFQ.out.2.setBox HRW.out _ 0⟩)
        clear hwd hsf x0 x1 f0 f1 HRW
        cases r1 with
        | some r =>
          have y0 := HROWB.out.cellQ 0 _ rfl
          have y1 := HROWB.out.cellQ 1 _ rfl
          have hres := Row.belowS HROW0.out HBZ.out (Nat.le_refl _)
          have x0 := hres.cellQ 0 _ rfl
          have x1 := hres.cellQ 1 _ rfl
          have f0 := hres.frozen 0
          have f1 := hres.frozen 1
          have HROWF := Lib.hid (show ∀ u v, Row (setFrom w.heap.size wd 0 [u, v]) w.heap.size #[u, v] 33 from fun u v => hres.all [u, v] rfl)
          have HFF := Lib.hid (And.intro (HFZ.out.1) (HFZ.out.2))
          clear hres
          go_wp2
          generalize hwd : World.setCell (World.setCell wd _ _) _ _ = we
          have hsf : setFrom w.heap.size wd 0 [.slice A7x n7x c7x, .slice B7x m7x k7x] = we := by rw [← hwd]; rfl
          have r0 : we.cell? ⟨w.heap.size, 0, none⟩ = some (.slice A7x n7x c7x) := by rw [← hsf]; exact (HROWF.out _ _).cellQ 0 _ rfl
          have r1 : we.cell? ⟨w.heap.size, 1, none⟩ = some (.slice B7x m7x k7x) := by rw [← hsf]; exact (HROWF.out _ _).cellQ 1 _ rfl
          refine bodyPost_ret (v := .tuple #[.agg #[.slice A7x n7x c7x, .slice B7x m7x k7x], .bool true]) (by simp [results, Tryd.results70, go_sem, r0, r1]) rfl ?_
          rw [HE.out]
          exact ⟨A7x, n7x, c7x, B7x, m7x, k7x, rfl, by rw [← hsf]; exact (HFF.out.1.set HLT.out _ 0).base (Nat.le_of_lt HLT.out), by rw [← hsf]; exact (HFF.out.2.set HLT.out _ 0).base (Nat.le_of_lt HLT.out), by rw [← hsf]; exact below_setFrom (Nat.le_refl _) _ 0 (bt HB0.out HBZ.out)⟩
        | none =>
          clear HBY HSZ HRAy HRBy HFQ HFZ HROWB
          have HBY := Lib.hid (bt HB0.out HBZ.out)
          have HSZ := Lib.hid (show w1.heap.size ≤ wd.heap.size from HBZ.out.size)
          have HRAy := Lib.hid (fun (W : World) (hW : Below wd.heap.size wd W) => HRA.out W (bt HBY.out hW))
          have HRBy := Lib.hid (fun (W : World) (hW : Below wd.heap.size wd W) => HRB.out W (bt HBY.out hW))
          go_wp2_with fail
          refine Free.wp_free_l 15 (fun W => Below wd.heap.size wd W) [Free.kc (.slice A m ca), Free.kc (.int .i64 (k0 : Int)), Free.kr (m - k0) (((List.range m).map fun i => pv (f i)).drop k0), Free.kc (.slice B nb cb), Free.kc (.int .i64 (k0 : Int)), Free.kr (nb - k0) (((List.range nb).map fun i => pv (g i)).drop k0), Free.kc (.int .i64 (m : Int)), Free.kc (.int .i64 (k0 : Int)), Free.kc (.int .i64 ((m : Int) - (k0 : Int))), Free.kc (.int .i64 (n : Int)), Free.kc (.int .i64 (k0 : Int)), Free.kc (.int .i64 ((n : Int) - (k0 : Int))), Free.kR (w1.heap.size) (r2), Free.kG (w1.heap.size) (r2), Free.kc (.bool (r2).isSome)] (by kernel_rfl) (by kernel_rfl) (by decide) (Below.refl _ _).drew (fun w w' h g => bt h g) ?_ ?_
          · refine Free.forall_succ (Free.forall_succ (Free.forall_succ (Free.forall_succ (Free.forall_succ (Free.forall_succ (Free.forall_succ (Free.forall_succ (Free.forall_succ (Free.forall_succ (Free.forall_succ (Free.forall_succ (Free.forall_succ (Free.forall_succ (Free.forall_succ (Free.forall_zero) ?_) ?_) ?_) ?_) ?_) ?_) ?_) ?_) ?_) ?_) ?_) ?_) ?_) ?_) ?_
            · exact Free.ob_plain _ rfl rfl fun vals wv hC hd => (by exact Free.d_move rfl (by kernel_rfl) rfl)
            · exact Free.ob_plain _ rfl rfl fun vals wv hC hd => (by exact Free.d_move rfl (by kernel_rfl) rfl)
            · exact Free.ob_plain _ rfl rfl fun vals wv hC hd => (by exact (by obtain ⟨A', hrun, hss⟩ := run_cutR_lo (n := m) (c := ca) (rows_rd (HRAy.out wv hC)) (by simp) (by omega) k0 (by omega); exact Free.d_slice rfl (Eq.trans (b := vals 0) (by kernel_rfl) (hd 0 (by kernel_rfl))) (show _ = some (Value.int .i64 (k0 : Int)) from congrArg some (Eq.trans (b := vals 1) (by kernel_rfl) (hd 1 (by kernel_rfl)))) rfl rfl hrun ⟨A', ca - k0, rfl, hss, by omega, by rw [maxLen_eq]; omega⟩))
            · exact Free.ob_plain _ rfl rfl fun vals wv hC hd => (by exact Free.d_move rfl (by kernel_rfl) rfl)
            · exact Free.ob_plain _ rfl rfl fun vals wv hC hd => (by exact Free.d_move rfl (by kernel_rfl) rfl)
            · exact Free.ob_plain _ rfl rfl fun vals wv hC hd => (by exact (by obtain ⟨A', hrun, hss⟩ := run_cutR_lo (n := nb) (c := cb) (rows_rd (HRBy.out wv hC)) (by simp) (by omega) k0 (by omega); exact Free.d_slice rfl (Eq.trans (b := vals 3) (by kernel_rfl) (hd 3 (by kernel_rfl))) (show _ = some (Value.int .i64 (k0 : Int)) from congrArg some (Eq.trans (b := vals 4) (by kernel_rfl) (hd 4 (by kernel_rfl)))) rfl rfl hrun ⟨A', cb - k0, rfl, hss, by omega, by rw [maxLen_eq]; omega⟩))
            · exact Free.ob_plain _ rfl rfl fun vals wv hC hd => (by exact Free.d_move rfl (by kernel_rfl) rfl)
            · exact Free.ob_plain _ rfl rfl fun vals wv hC hd => (by exact Free.d_move rfl (by kernel_rfl) rfl)
            · exact Free.ob_plain _ rfl rfl fun vals wv hC hd => (by exact Free.d_bin rfl (Eq.trans (b := vals 6) (by kernel_rfl) (hd 6 (by kernel_rfl))) (Eq.trans (b := vals 7) (by kernel_rfl) (hd 7 (by kernel_rfl))) (by go_simp) (by first | (go_simp; done) | (go_simp; rw [IntWalk.u32_in _ (by omega)]) | (go_simp; rw [IntWalk.i64_in _ (by omega)]) | (go_simp; rw [IntWalk.u8_in _ (by omega)]) | (go_simp; rw [IntKind.wrap_u32]; exact nv_add _ _)) rfl)
            · exact Free.ob_plain _ rfl rfl fun vals wv hC hd => (by exact Free.d_move rfl (by kernel_rfl) rfl)
            · exact Free.ob_plain _ rfl rfl fun vals wv hC hd => (by exact Free.d_move rfl (by kernel_rfl) rfl)
            · exact Free.ob_plain _ rfl rfl fun vals wv hC hd => (by exact Free.d_bin rfl (Eq.trans (b := vals 9) (by kernel_rfl) (hd 9 (by kernel_rfl))) (Eq.trans (b := vals 10) (by kernel_rfl) (hd 10 (by kernel_rfl))) (by go_simp) (by first | (go_simp; done) | (go_simp; rw [IntWalk.u32_in _ (by omega)]) | (go_simp; rw [IntWalk.i64_in _ (by omega)]) | (go_simp; rw [IntWalk.u8_in _ (by omega)]) | (go_simp; rw [IntKind.wrap_u32]; exact nv_add _ _)) rfl)
            · exact Free.ob_plain _ rfl rfl fun vals wv hC hd => (by obtain ⟨A2, k2, e2, rd2, le2, mx2⟩ := hd 2 (by kernel_rfl); obtain ⟨A5, k5, e5, rd5, le5, mx5⟩ := hd 5 (by kernel_rfl); exact Free.d_call Tryd.func70 (by kernel_rfl) (by kernel_rfl) rfl rfl (arg4c (Eq.trans (b := vals 2) (by kernel_rfl) e2) (Eq.trans (b := vals 5) (by kernel_rfl) e5) (Eq.trans (b := vals 8) (by kernel_rfl) (hd 8 (by kernel_rfl))) (Eq.trans (b := vals 11) (by kernel_rfl) (hd 11 (by kernel_rfl)))) ((IHR.out A2 k2 A5 k5 wv (bt HBY.out hC) (rd_rows rd2 (fun i hi => by rw [List.getElem?_drop, List.getElem?_map, List.getElem?_range (by omega)]; rfl) (fun i hi => rows_pc (HRAy.out wv hC) (by omega))) ⟨le2, mx2⟩ (rd_rows rd5 (fun i hi => by rw [List.getElem?_drop, List.getElem?_map, List.getElem?_range (by omega)]; rfl) (fun i hi => rows_pc (HRBy.out wv hC) (by omega))) ⟨le5, mx5⟩).mono fun e w2 h => (by obtain ⟨A7, n7, c7, B7, m7, k7, he, h1, h2, hb⟩ := h; exact ⟨_, he, ⟨_, rfl, ⟨A7, n7, c7, B7, m7, k7, rfl, h1.base (Nat.le_trans HSZ.out hC.size), h2.base (Nat.le_trans HSZ.out hC.size)⟩⟩, hb⟩)))
            · exact Free.ob_plain _ rfl rfl fun vals wv hC hd => (by obtain ⟨v12, e12, pd12⟩ := hd 12 (by kernel_rfl); exact (by obtain ⟨A7, n7, c7, B7, m7, k7, he7, h1, h2⟩ := pd12; exact Free.d_extract rfl (Eq.trans (Eq.trans (b := vals 12) (by kernel_rfl) e12) he7) (by first | rfl | (go_simp; done)) ⟨_, rfl, ⟨A7, n7, c7, B7, m7, k7, rfl, h1, h2⟩⟩))
            · exact Free.ob_plain _ rfl rfl fun vals wv hC hd => (by obtain ⟨v12, e12, pd12⟩ := hd 12 (by kernel_rfl); exact (by obtain ⟨A7, n7, c7, B7, m7, k7, he7, h1, h2⟩ := pd12; exact Free.d_extract rfl (Eq.trans (Eq.trans (b := vals 12) (by kernel_rfl) e12) he7) (by first | rfl | (go_simp; done)) rfl))
          · intro vals wv hC hd
            have e0 : vals 0 = (.slice A m ca) := hd 0 (by decide)
            have e1 : vals 1 = (.int .i64 (k0 : Int)) := hd 1 (by decide)
            obtain ⟨A2, k2, e2, rd2, le2, mx2⟩ := hd 2 (by decide)
            have e3 : vals 3 = (.slice B nb cb) := hd 3 (by decide)
            have e4 : vals 4 = (.int .i64 (k0 : Int)) := hd 4 (by decide)
            obtain ⟨A5, k5, e5, rd5, le5, mx5⟩ := hd 5 (by decide)
            have e6 : vals 6 = (.int .i64 (m : Int)) := hd 6 (by decide)
            have e7 : vals 7 = (.int .i64 (k0 : Int)) := hd 7 (by decide)
            have e8 : vals 8 = (.int .i64 ((m : Int) - (k0 : Int))) := hd 8 (by decide)
            have e9 : vals 9 = (.int .i64 (n : Int)) := hd 9 (by decide)
            have e10 : vals 10 = (.int .i64 (k0 : Int)) := hd 10 (by decide)
            have e11 : vals 11 = (.int .i64 ((n : Int) - (k0 : Int))) := hd 11 (by decide)
            obtain ⟨v12, e12, pd12⟩ := hd 12 (by decide)
            obtain ⟨v13, e13, pd13⟩ := hd 13 (by decide)
            have e14 : vals 14 = (.bool (r2).isSome) := hd 14 (by decide)
            simp only [Free.frameOf, List.range, List.range.loop, List.foldl, Free.dstOf, List.getElem?_toArray, List.getElem?_cons_zero, List.getElem?_cons_succ, Option.bind_some, Act.put, List.setIfInBounds_toArray, List.set_cons_zero, List.set_cons_succ, e0, e1, e2, e3, e4, e5, e6, e7, e8, e9, e10, e11, e12, e13, e14]
            clear hd e0 e1 e2 e3 e4 e5 e6 e7 e8 e9 e10 e11 e12 e13 e14
            obtain ⟨A9, n9, c9, B9, m9, k9, rfl, hf1, hf2⟩ := pd13
            clear pd12 rd2 le2 mx2 rd5 le5 mx5
            have hres := Row.belowS HROW0.out (bt HBZ.out hC) (Nat.le_refl _)
            have x0 := hres.cellQ 0 _ rfl
            have x1 := hres.cellQ 1 _ rfl
            have f0 := hres.frozen 0
            have f1 := hres.frozen 1
            have HROWF := Lib.hid (show ∀ u v, Row (setFrom w.heap.size wv 0 [u, v]) w.heap.size #[u, v] 33 from fun u v => hres.all [u, v] rfl)
            have HFF := Lib.hid (And.intro (hf1) (hf2))
            clear hres
            go_wp2
            generalize hwd : World.setCell (World.setCell wv _ _) _ _ = we
            have hsf : setFrom w.heap.size wv 0 [.slice A9 n9 c9, .slice B9 m9 k9] = we := by rw [← hwd]; rfl
            have r0 : we.cell? ⟨w.heap.size, 0, none⟩ = some (.slice A9 n9 c9) := by rw [← hsf]; exact (HROWF.out _ _).cellQ 0 _ rfl
            have r1 : we.cell? ⟨w.heap.size, 1, none⟩ = some (.slice B9 m9 k9) := by rw [← hsf]; exact (HROWF.out _ _).cellQ 1 _ rfl
            refine bodyPost_ret (v := .tuple #[.agg #[.slice A9 n9 c9, .slice B9 m9 k9], .bool r2.isSome]) (by simp [results, Tryd.results70, go_sem, r0, r1]) rfl ?_
            rw [HE.out]
            exact ⟨A9, n9, c9, B9, m9, k9, rfl, by rw [← hsf]; exact (HFF.out.1.set HLT.out _ 0).base (Nat.le_of_lt HLT.out), by rw [← hsf]; exact (HFF.out.2.set HLT.out _ 0).base (Nat.le_of_lt HLT.out), by rw [← hsf]; exact below_setFrom (Nat.le_refl _) _ 0 (bt HBY.out hC)⟩
      · intro vals wq hC hd hlate
        have e0 : vals 0 = (.slice A m ca) := hd 0 (by decide) (by decide)
        have e1 : vals 1 = (.int .i64 (k0 : Int)) := hd 1 (by decide) (by decide)
        obtain ⟨A2, k2, e2, rd2, le2, mx2⟩ := hd 2 (by decide) (by decide)
        have e3 : vals 3 = (.slice B nb cb) := hd 3 (by decide) (by decide)
        have e4 : vals 4 = (.int .i64 (k0 : Int)) := hd 4 (by decide) (by decide)
        obtain ⟨A5, k5, e5, rd5, le5, mx5⟩ := hd 5 (by decide) (by decide)
        obtain ⟨v6, e6, pd6⟩ := hd 6 (by decide) (by decide)
        obtain ⟨v7, e7, pd7⟩ := hd 7 (by decide) (by decide)
        obtain ⟨v8, e8, pd8⟩ := hd 8 (by decide) (by decide)
        have e9 := hlate
        obtain ⟨g10, e10, ge10, rw10⟩ := hd 10 (by decide) (by decide)
        simp only [Free.frameOf, List.range, List.range.loop, List.foldl, Free.dstOf, List.getElem?_toArray, List.getElem?_cons_zero, List.getElem?_cons_succ, Option.bind_some, Act.put, List.setIfInBounds_toArray, List.set_cons_zero, List.set_cons_succ, e0, e1, e2, e3, e4, e5, e6, e7, e8, e9, e10]
        clear hd e0 e1 e2 e3 e4 e5 e6 e7 e8 e9 e10
        obtain ⟨A7x, n7x, c7x, B7x, m7x, k7x, rfl, hf1, hf2⟩ := pd8
        obtain ⟨Az, nz, cz, Bz, mz, kz, rfl, _, _⟩ := pd7
        have HFQ := Lib.hid (And.intro hf1 hf2)
        have HBQ := Lib.hid hC
        have x0 := rw10.cellQ 0 _ rfl
        have x1 := rw10.cellQ 1 _ rfl
        have f0 := rw10.frozen 0
        have f1 := rw10.frozen 1
        have HRW := Lib.hid rw10
        have HGE := Lib.hid ge10
        clear hf1 hf2 hC pd6 rd2 le2 mx2 rd5 le5 mx5 rw10 ge10
        go_upto_region 7 with fail
        generalize hwd : World.setCell (World.setCell wq _ _) _ _ = wd
        have hsf : setFrom g10 wq 0 [.slice A7x n7x c7x, .slice B7x m7x k7x] = wd := by rw [← hwd]; rfl
        have HROWB := Lib.hid (show Row wd g10 #[.slice A7x n7x c7x, .slice B7x m7x k7x] 33 by rw [← hsf]; exact HRW.out.all [.slice A7x n7x c7x, .slice B7x m7x k7x] rfl)
        have HBZ := Lib.hid (show Below w1.heap.size w1 wd by rw [← hsf]; exact below_setFrom HGE.out _ 0 HBQ.out)
        have HFZ := Lib.hid (show Fr wd w1.heap.size A7x n7x c7x (cl1 r1) ∧ Fr wd w1.heap.size B7x m7x k7x (cl2 r1) by rw [← hsf]; exact ⟨HFQ.out.1.setBox HRW.out _ 0, HFQ.out.2.setBox HRW.out _ 0⟩)
        clear hwd hsf x0 x1 f0 f1 HRW
        cases r1 with
        | some r =>
          have y0 := HROWB.out.cellQ 0 _ rfl
          have y1 := HROWB.out.cellQ 1 _ rfl
          have hres := Row.belowS HROW0.out HBZ.out (Nat.le_refl _)
          have x0 := hres.cellQ 0 _ rfl
          have x1 := hres.cellQ 1 _ rfl
          have f0 := hres.frozen 0
          have f1 := hres.frozen 1
          have HROWF := Lib.hid (show ∀ u v, Row (setFrom w.heap.size wd 0 [u, v]) w.heap.size #[u, v] 33 from fun u v => hres.all [u, v] rfl)
          have HFF := Lib.hid (And.intro (HFZ.out.1) (HFZ.out.2))
          clear hres
          go_wp2
          generalize hwd : World.setCell (World.setCell wd _ _) _ _ = we
          have hsf : setFrom w.heap.size wd 0 [.slice A7x n7x c7x, .slice B7x m7x k7x] = we := by rw [← hwd]; rfl
          have r0 : we.cell? ⟨w.heap.size, 0, none⟩ = some (.slice A7x n7x c7x) := by rw [← hsf]; exact (HROWF.out _ _).cellQ 0 _ rfl
          have r1 : we.cell? ⟨w.heap.size, 1, none⟩ = some (.slice B7x m7x k7x) := by rw [← hsf]; exact (HROWF.out _ _).cellQ 1 _ rfl
          refine bodyPost_ret (v := .tuple #[.agg #[.slice A7x n7x c7x, .slice B7x m7x k7x], .bool true]) (by simp [results, Tryd.results70, go_sem, r0, r1]) rfl ?_
          rw [HE.out]
          exact ⟨A7x, n7x, c7x, B7x, m7x, k7x, rfl, by rw [← hsf]; exact (HFF.out.1.set HLT.out _ 0).base (Nat.le_of_lt HLT.out), by rw [← hsf]; exact (HFF.out.2.set HLT.out _ 0).base (Nat.le_of_lt HLT.out), by rw [← hsf]; exact below_setFrom (Nat.le_refl _) _ 0 (bt HB0.out HBZ.out)⟩
        | none =>
          clear HBY HSZ HRAy HRBy HFQ HFZ HROWB
          have HBY := Lib.hid (bt HB0.out HBZ.out)
          have HSZ := Lib.hid (show w1.heap.size ≤ wd.heap.size from HBZ.out.size)
          have HRAy := Lib.hid (fun (W : World) (hW : Below wd.heap.size wd W) => HRA.out W (bt HBY.out hW))
          have HRBy := Lib.hid (fun (W : World) (hW : Below wd.heap.size wd W) => HRB.out W (bt HBY.out hW))
          go_wp2_with fail
          refine Free.wp_free_l 15 (fun W => Below wd.heap.size wd W) [Free.kc (.slice A m ca), Free.kc (.int .i64 (k0 : Int)), Free.kr (m - k0) (((List.range m).map fun i => pv (f i)).drop k0), Free.kc (.slice B nb cb), Free.kc (.int .i64 (k0 : Int)), Free.kr (nb - k0) (((List.range nb).map fun i => pv (g i)).drop k0), Free.kc (.int .i64 (m : Int)), Free.kc (.int .i64 (k0 : Int)), Free.kc (.int .i64 ((m : Int) - (k0 : Int))), Free.kc (.int .i64 (n : Int)), Free.kc (.int .i64 (k0 : Int)), Free.kc (.int .i64 ((n : Int) - (k0 : Int))), Free.kR (w1.heap.size) (r2), Free.kG (w1.heap.size) (r2), Free.kc (.bool (r2).isSome)] (by kernel_rfl) (by kernel_rfl) (by decide) (Below.refl _ _).drew (fun w w' h g => bt h g) ?_ ?_
          · refine Free.forall_succ (Free.forall_succ (Free.forall_succ (Free.forall_succ (Free.forall_succ (Free.forall_succ (Free.forall_succ (Free.forall_succ (Free.forall_succ (Free.forall_succ (Free.forall_succ (Free.forall_succ (Free.forall_succ (Free.forall_succ (Free.forall_succ (Free.forall_zero) ?_) ?_) ?_) ?_) ?_) ?_) ?_) ?_) ?_) ?_) ?_) ?_) ?_) ?_) ?_
            · exact Free.ob_plain _ rfl rfl fun vals wv hC hd => (by exact Free.d_move rfl (by kernel_rfl) rfl)
            · exact Free.ob_plain _ rfl rfl fun vals wv hC hd => (by exact Free.d_move rfl (by kernel_rfl) rfl)
            · exact Free.ob_plain _ rfl rfl fun vals wv hC hd => (by exact (by obtain ⟨A', hrun, hss⟩ := run_cutR_lo (n := m) (c := ca) (rows_rd (HRAy.out wv hC)) (by simp) (by omega) k0 (by omega); exact Free.d_slice rfl (Eq.trans (b := vals 0) (by kernel_rfl) (hd 0 (by kernel_rfl))) (show _ = some (Value.int .i64 (k0 : Int)) from congrArg some (Eq.trans (b := vals 1) (by kernel_rfl) (hd 1 (by kernel_rfl)))) rfl rfl hrun ⟨A', ca - k0, rfl, hss, by omega, by rw [maxLen_eq]; omega⟩))
            · exact Free.ob_plain _ rfl rfl fun vals wv hC hd => (by exact Free.d_move rfl (by kernel_rfl) rfl)
            · exact Free.ob_plain _ rfl rfl fun vals wv hC hd => (by exact Free.d_move rfl (by kernel_rfl) rfl)
            · exact Free.ob_plain _ rfl rfl fun vals wv hC hd => (by exact (by obtain ⟨A', hrun, hss⟩ := run_cutR_lo (n := nb) (c := cb) (rows_rd (HRBy.out wv hC)) (by simp) (by omega) k0 (by omega); exact Free.d_slice rfl (Eq.trans (b := vals 3) (by kernel_rfl) (hd 3 (by kernel_rfl))) (show _ = some (Value.int .i64 (k0 : Int)) from congrArg some (Eq.trans (b := vals 4) (by kernel_rfl) (hd 4 (by kernel_rfl)))) rfl rfl hrun ⟨A', cb - k0, rfl, hss, by omega, by rw [maxLen_eq]; omega⟩))
            · exact Free.ob_plain _ rfl rfl fun vals wv hC hd => (by exact Free.d_move rfl (by kernel_rfl) rfl)
            · exact Free.ob_plain _ rfl rfl fun vals wv hC hd => (by exact Free.d_move rfl (by kernel_rfl) rfl)
            · exact Free.ob_plain _ rfl rfl fun vals wv hC hd => (by exact Free.d_bin rfl (Eq.trans (b := vals 6) (by kernel_rfl) (hd 6 (by kernel_rfl))) (Eq.trans (b := vals 7) (by kernel_rfl) (hd 7 (by kernel_rfl))) (by go_simp) (by first | (go_simp; done) | (go_simp; rw [IntWalk.u32_in _ (by omega)]) | (go_simp; rw [IntWalk.i64_in _ (by omega)]) | (go_simp; rw [IntWalk.u8_in _ (by omega)]) | (go_simp; rw [IntKind.wrap_u32]; exact nv_add _ _)) rfl)
            · exact Free.ob_plain _ rfl rfl fun vals wv hC hd => (by exact Free.d_move rfl (by kernel_rfl) rfl)
            · exact Free.ob_plain _ rfl rfl fun vals wv hC hd => (by exact Free.d_move rfl (by kernel_rfl) rfl)
            · exact Free.ob_plain _ rfl rfl fun vals wv hC hd => (by exact Free.d_bin rfl (Eq.trans (b := vals 9) (by kernel_rfl) (hd 9 (by kernel_rfl))) (Eq.trans (b := vals 10) (by kernel_rfl) (hd 10 (by kernel_rfl))) (by go_simp) (by first | (go_simp; done) | (go_simp; rw [IntWalk.u32_in _ (by omega)]) | (go_simp; rw [IntWalk.i64_in _ (by omega)]) | (go_simp; rw [IntWalk.u8_in _ (by omega)]) | (go_simp; rw [IntKind.wrap_u32]; exact nv_add _ _)) rfl)
            · exact Free.ob_plain _ rfl rfl fun vals wv hC hd => (by obtain ⟨A2, k2, e2, rd2, le2, mx2⟩ := hd 2 (by kernel_rfl); obtain ⟨A5, k5, e5, rd5, le5, mx5⟩ := hd 5 (by kernel_rfl); exact Free.d_call Tryd.func70 (by kernel_rfl) (by kernel_rfl) rfl rfl (arg4c (Eq.trans (b := vals 2) (by kernel_rfl) e2) (Eq.trans (b := vals 5) (by kernel_rfl) e5) (Eq.trans (b := vals 8) (by kernel_rfl) (hd 8 (by kernel_rfl))) (Eq.trans (b := vals 11) (by kernel_rfl) (hd 11 (by kernel_rfl)))) ((IHR.out A2 k2 A5 k5 wv (bt HBY.out hC) (rd_rows rd2 (fun i hi => by rw [List.getElem?_drop, List.getElem?_map, List.getElem?_range (by omega)]; rfl) (fun i hi => rows_pc (HRAy.out wv hC) (by omega))) ⟨le2, mx2⟩ (rd_rows rd5 (fun i hi => by rw [List.getElem?_drop, List.getElem?_map, List.getElem?_range (by omega)]; rfl) (fun i hi => rows_pc (HRBy.out wv hC) (by omega))) ⟨le5, mx5⟩).mono fun e w2 h => (by obtain ⟨A7, n7, c7, B7, m7, k7, he, h1, h2, hb⟩ := h; exact ⟨_, he, ⟨_, rfl, ⟨A7, n7, c7, B7, m7, k7, rfl, h1.base (Nat.le_trans HSZ.out hC.size), h2.base (Nat.le_trans HSZ.out hC.size)⟩⟩, hb⟩)))
            · exact Free.ob_plain _ rfl rfl fun vals wv hC hd => (by obtain ⟨v12, e12, pd12⟩ := hd 12 (by kernel_rfl); exact (by obtain ⟨A7, n7, c7, B7, m7, k7, he7, h1, h2⟩ := pd12; exact Free.d_extract rfl (Eq.trans (Eq.trans (b := vals 12) (by kernel_rfl) e12) he7) (by first | rfl | (go_simp; done)) ⟨_, rfl, ⟨A7, n7, c7, B7, m7, k7, rfl, h1, h2⟩⟩))
            · exact Free.ob_plain _ rfl rfl fun vals wv hC hd => (by obtain ⟨v12, e12, pd12⟩ := hd 12 (by kernel_rfl); exact (by obtain ⟨A7, n7, c7, B7, m7, k7, he7, h1, h2⟩ := pd12; exact Free.d_extract rfl (Eq.trans (Eq.trans (b := vals 12) (by kernel_rfl) e12) he7) (by first | rfl | (go_simp; done)) rfl))
          · intro vals wv hC hd
            have e0 : vals 0 = (.slice A m ca) := hd 0 (by decide)
            have e1 : vals 1 = (.int .i64 (k0 : Int)) := hd 1 (by decide)
            obtain ⟨A2, k2, e2, rd2, le2, mx2⟩ := hd 2 (by decide)
            have e3 : vals 3 = (.slice B nb cb) := hd 3 (by decide)
            have e4 : vals 4 = (.int .i64 (k0 : Int)) := hd 4 (by decide)
            obtain ⟨A5, k5, e5, rd5, le5, mx5⟩ := hd 5 (by decide)
            have e6 : vals 6 = (.int .i64 (m : Int)) := hd 6 (by decide)
            have e7 : vals 7 = (.int .i64 (k0 : Int)) := hd 7 (by decide)
            have e8 : vals 8 = (.int .i64 ((m : Int) - (k0 : Int))) := hd 8 (by decide)
            have e9 : vals 9 = (.int .i64 (n : Int)) := hd 9 (by decide)
            have e10 : vals 10 = (.int .i64 (k0 : Int)) := hd 10 (by decide)
            have e11 : vals 11 = (.int .i64 ((n : Int) - (k0 : Int))) := hd 11 (by decide)
            obtain ⟨v12, e12, pd12⟩ := hd 12 (by decide)
            obtain ⟨v13, e13, pd13⟩ := hd 13 (by decide)
            have e14 : vals 14 = (.bool (r2).isSome) := hd 14 (by decide)
            simp only [Free.frameOf, List.range, List.range.loop, List.foldl, Free.dstOf, List.getElem?_toArray, List.getElem?_cons_zero, List.getElem?_cons_succ, Option.bind_some, Act.put, List.setIfInBounds_toArray, List.set_cons_zero, List.set_cons_succ, e0, e1, e2, e3, e4, e5, e6, e7, e8, e9, e10, e11, e12, e13, e14]
            clear hd e0 e1 e2 e3 e4 e5 e6 e7 e8 e9 e10 e11 e12 e13 e14
            obtain ⟨A9, n9, c9, B9, m9, k9, rfl, hf1, hf2⟩ := pd13
            clear pd12 rd2 le2 mx2 rd5 le5 mx5
            have hres := Row.belowS HROW0.out (bt HBZ.out hC) (Nat.le_refl _)
            have x0 := hres.cellQ 0 _ rfl
            have x1 := hres.cellQ 1 _ rfl
            have f0 := hres.frozen 0
            have f1 := hres.frozen 1
            have HROWF := Lib.hid (show ∀ u v, Row (setFrom w.heap.size wv 0 [u, v]) w.heap.size #[u, v] 33 from fun u v => hres.all [u, v] rfl)
            have HFF := Lib.hid (And.intro (hf1) (hf2))
            clear hres
            go_wp2
            generalize hwd : World.setCell (World.setCell wv _ _) _ _ = we
            have hsf : setFrom w.heap.size wv 0 [.slice A9 n9 c9, .slice B9 m9 k9] = we := by rw [← hwd]; rfl
            have r0 : we.cell? ⟨w.heap.size, 0, none⟩ = some (.slice A9 n9 c9) := by rw [← hsf]; exact (HROWF.out _ _).cellQ 0 _ rfl
            have r1 : we.cell? ⟨w.heap.size, 1, none⟩ = some (.slice B9 m9 k9) := by rw [← hsf]; exact (HROWF.out _ _).cellQ 1 _ rfl
            refine bodyPost_ret (v := .tuple #[.agg #[.slice A9 n9 c9, .slice B9 m9 k9], .bool r2.isSome]) (by simp [results, Tryd.results70, go_sem, r0, r1]) rfl ?_
            rw [HE.out]
            exact ⟨A9, n9, c9, B9, m9, k9, rfl, by rw [← hsf]; exact (HFF.out.1.set HLT.out _ 0).base (Nat.le_of_lt HLT.out), by rw [← hsf]; exact (HFF.out.2.set HLT.out _ 0).base (Nat.le_of_lt HLT.out), by rw [← hsf]; exact below_setFrom (Nat.le_refl _) _ 0 (bt HBY.out hC)⟩
end Go.Proofs.YtlcdpbpbfofmmaaDoor

namespace Go.Proofs.YtlcdpbpbfofmmaaDoor
set_option maxRecDepth 100000
set_option linter.unusedVariables false
open Go.RowKit
set_option maxHeartbeats 32000000 in
theorem rCons_any (A : Option Addr) (n c : Nat) (f : Nat → Piece) (B : Option Addr) (m k : Nat) (g : Nat → Piece) (Ap : Option Addr) (np cp : Nat) (p : List (List UInt8)) (w : World) (hn : n ≤ 300) (hn2 : m ≤ 300) (hra : RowsAt w A n f) (hca : n ≤ c ∧ c ≤ maxLen) (hrb : RowsAt w B m g) (hcb : m ≤ k ∧ k ≤ maxLen)
    (hsf : ∀ i, i < n → (f i).n ≤ 1000) (hsg : ∀ i, i < m → (g i).n ≤ 1000) (hp : Ss w Ap np cp p) (hwf : ∀ s ∈ p, s.length ≤ maxLen) :
    Calls Tryd.prog 30 #[.slice A n c, .slice B m k, .slice Ap np cp] w (ResPost w.heap.size (consB f n g m p) w) := by
  have hrow := row_new w #[.slice none 0 0, .slice none 0 0] 33
  have hb0 : Below w.heap.size w (w.alloc (.cells #[.slice none 0 0, .slice none 0 0] 33)) := (Below.refl _ w).alloc (Nat.le_refl _) _
  have hlt0 : w.heap.size < (w.alloc (.cells #[.slice none 0 0, .slice none 0 0] 33)).heap.size := by rw [alloc_size]; omega
  obtain ⟨hc1, hm1⟩ := hca
  obtain ⟨hc2, hm2⟩ := hcb
  have hm1' := hm1
  have hm2' := hm2
  have hc3 := hp.cap
  have hm3 := hp.max
  rw [maxLen_eq] at hm1' hm2' hm3
  by_cases h0 : n = 0
  · subst h0
    have HE := Lib.hid (show consB f 0 g m p = none by unfold consB; rw [if_neg (fun h => by omega)])
    have x0 := hrow.cellQ 0 _ rfl
    have x1 := hrow.cellQ 1 _ rfl
    have f0 := hrow.frozen 0
    have f1 := hrow.frozen 1
    have HB0 := Lib.hid hb0
    clear hra hrb hsf hsg hp hwf hrow hb0 hlt0
    go_enter Tryd.func30, Tryd.ntmps30
    go_wp2
    refine bodyPost_ret (v := .tuple #[.agg #[.slice none 0 0, .slice none 0 0], .bool false]) (by simp [results, Tryd.results30, go_sem, x0, x1]) rfl ?_
    rw [HE.out]
    exact ⟨none, 0, 0, none, 0, 0, rfl, Fr.nil _ _, Fr.nil _ _, HB0.out⟩
  by_cases h1 : m < n
  · have g1 : ((n : Int) == 0) = false := beq_eq_false_iff_ne.2 (by omega)
    have HE := Lib.hid (show consB f n g m p = none by unfold consB; rw [if_neg (fun h => by omega)])
    have x0 := hrow.cellQ 0 _ rfl
    have x1 := hrow.cellQ 1 _ rfl
    have f0 := hrow.frozen 0
    have f1 := hrow.frozen 1
    have HB0 := Lib.hid hb0
    clear hra hrb hsf hsg hp hwf hrow hb0 hlt0
    go_enter Tryd.func30, Tryd.ntmps30
    go_wp2
    refine bodyPost_ret (v := .tuple #[.agg #[.slice none 0 0, .slice none 0 0], .bool false]) (by simp [results, Tryd.results30, go_sem, x0, x1]) rfl ?_
    rw [HE.out]
    exact ⟨none, 0, 0, none, 0, 0, rfl, Fr.nil _ _, Fr.nil _ _, HB0.out⟩
  have hnm : n ≤ m := by omega
  have hn1 : 1 ≤ n := by omega
  have g1 : ((n : Int) == 0) = false := beq_eq_false_iff_ne.2 (by omega)
  obtain ⟨w1, hw1⟩ : ∃ w1, (w.alloc (.cells #[.slice none 0 0, .slice none 0 0] 33)) = w1 := ⟨_, rfl⟩
  rw [hw1] at hrow hb0 hlt0
  have HW1 := Lib.hid hw1
  have HB0 := Lib.hid hb0
  have HROW0 := Lib.hid hrow
  have HLT := Lib.hid hlt0
  obtain ⟨X, hX⟩ : ∃ X, tleaves f n = X := ⟨_, rfl⟩
  obtain ⟨Y, hY⟩ : ∃ X, tleaves g m = X := ⟨_, rfl⟩
  have hX32 : ∀ s ∈ X, s.length = 32 := by rw [← hX, raws_lv]; exact Cl.lv_all _
  have hY32 : ∀ s ∈ Y, s.length = 32 := by rw [← hY, raws_lv]; exact Cl.lv_all _
  have hXl : X.length = n := by rw [← hX]; simp [tleaves]
  have hYl : Y.length = m := by rw [← hY]; simp [tleaves]
  have HXL := Lib.hid (And.intro hXl hYl)
  have CX := Lib.hid (show ∀ W, Below w.heap.size w W → Calls Tryd.prog 16 #[.slice A n c] W (OwnSPost W.heap.size X W) from fun W hW => by rw [← hX]; exact rleaves_any A n c f W (hra.keep hW) hc1 hm1 (by omega) (fun i hi => by have := hsf i hi; omega))
  have CY := Lib.hid (show ∀ W, Below w.heap.size w W → Calls Tryd.prog 16 #[.slice B m k] W (OwnSPost W.heap.size Y W) from fun W hW => by rw [← hY]; exact rleaves_any B m k g W (hrb.keep hW) hc2 hm2 (by omega) (fun i hi => by have := hsg i hi; omega))
  unfold OwnSPost at CX CY
  obtain ⟨RX, hRX⟩ : ∃ R, troot X = R := ⟨_, rfl⟩
  obtain ⟨RY, hRY⟩ : ∃ R, troot Y = R := ⟨_, rfl⟩
  have CRX := Lib.hid (show ∀ (L : Nat) (A' : Option Addr) (n' c' : Nat) (W : World), OwnS W L A' n' c' X → Calls Tryd.prog 19 #[.slice A' n' c'] W (StrPost RX W) from fun L A' n' c' W h => by
    rw [← hRX]; exact rroot_any _ A' n' c' X W (Nat.le_refl _) h.ss hX32 (by have := h.len; omega))
  have CRY := Lib.hid (show ∀ (L : Nat) (A' : Option Addr) (n' c' : Nat) (W : World), OwnS W L A' n' c' Y → Calls Tryd.prog 19 #[.slice A' n' c'] W (StrPost RY W) from fun L A' n' c' W h => by
    rw [← hRY]; exact rroot_any _ A' n' c' Y W (Nat.le_refl _) h.ss hY32 (by have := h.len; omega))
  unfold StrPost at CRX CRY
  have hRXl : RX.length = 32 := by rw [← hRX]; exact troot_len hX32
  obtain ⟨V, hV⟩ : ∃ V, (Tree.all32 p && tcheck n m RX RY p) = V := ⟨_, rfl⟩
  have CK := Lib.hid (show ∀ W, Below w.heap.size w W → Calls Tryd.prog 67 #[.int .i64 (n : Int), .int .i64 (m : Int), sv RX, sv RY, .slice Ap np cp] W (RetB V W) from fun W hW => by
    rw [← hV]; exact rcheck_any n m RX RY Ap np cp p W (hp.keep hW) hwf hnm (by omega) hRXl)
  unfold RetB at CK
  cases hVc : V with
  | false =>
    rw [hVc] at hV CK
    have HE := Lib.hid (show consB f n g m p = none by unfold consB; rw [hX, hY, hRX, hRY, hV, if_neg (fun h => by cases h.2.2)])
    clear hra hrb hsf hsg hp hwf hX hY hX32 hY32 hXl hYl hRX hRY hRXl hw1 hrow hb0 hlt0 hV hVc
    go_enter Tryd.func30, Tryd.ntmps30
    go_wp2_with fail
    rw [HW1.out]
    (with_reducible refine (CX.out w1 HB0.out).mono ?_)
    rintro e w3 ⟨AX, nX, cX, rfl, ho3, hb3⟩
    have HB3 := Lib.hid hb3
    have HX3 := Lib.hid ho3
    clear hb3 ho3
    go_wp2_with fail
    (with_reducible refine (CY.out w3 (bt HB0.out HB3.out)).mono ?_)
    rintro e w4 ⟨AY, nY, cY, rfl, ho4, hb4⟩
    have HB4 := Lib.hid (bt HB3.out hb4)
    have HX4 := Lib.hid (HX3.out.keep hb4)
    have HY4 := Lib.hid ho4
    clear hb4 ho4
    obtain rfl : n = nX := by rw [← HX4.out.len]; exact HXL.out.1.symm
    obtain rfl : m = nY := by rw [← HY4.out.len]; exact HXL.out.2.symm
    go_wp2_with fail
    (with_reducible refine (CRX.out _ AX n cX w4 HX4.out).mono ?_)
    rintro e w5 ⟨rfl, hb5⟩
    have HB5 := Lib.hid (bt HB4.out hb5)
    have HX5 := Lib.hid (HX4.out.keep hb5)
    have HY5 := Lib.hid (HY4.out.keep hb5)
    clear hb5
    go_wp2_with fail
    (with_reducible refine (CRY.out _ AY m cY w5 HY5.out).mono ?_)
    rintro e w6 ⟨rfl, hb6⟩
    have HB6 := Lib.hid (bt HB5.out hb6)
    have HX6 := Lib.hid (HX5.out.keep hb6)
    have HY6 := Lib.hid (HY5.out.keep hb6)
    clear hb6
    go_wp2_with fail
    (with_reducible refine (CK.out w6 (bt HB0.out HB6.out)).mono ?_)
    rintro e w7 ⟨rfl, hb7⟩
    have HB7 := Lib.hid (bt HB6.out hb7)
    have HX7 := Lib.hid (HX6.out.keep hb7)
    have HY7 := Lib.hid (HY6.out.keep hb7)
    clear hb7
    have hres := HROW0.out.belowS HB7.out (Nat.le_refl _)
    have HRES := Lib.hid hres
    have HBZ := Lib.hid (bt HB0.out HB7.out)
    have x0 := HRES.out.cellQ 0 _ rfl
    have x1 := HRES.out.cellQ 1 _ rfl
    have f0 := HRES.out.frozen 0
    have f1 := HRES.out.frozen 1
    have HROW := Lib.hid (show ∀ u v, Row (setFrom w.heap.size w7 0 [u, v]) w.heap.size #[u, v] 33 from fun u v => HRES.out.all [u, v] rfl)
    go_wp2
    generalize hwd : World.setCell (World.setCell w7 _ _) _ _ = wd
    have hsf : setFrom w.heap.size w7 0 [.slice none 0 0, .slice none 0 0] = wd := by rw [← hwd]; rfl
    have r0 : wd.cell? ⟨w.heap.size, 0, none⟩ = some (.slice none 0 0) := by rw [← hsf]; exact (HROW.out _ _).cellQ 0 _ rfl
    have r1 : wd.cell? ⟨w.heap.size, 1, none⟩ = some (.slice none 0 0) := by rw [← hsf]; exact (HROW.out _ _).cellQ 1 _ rfl
    refine bodyPost_ret (v := .tuple #[.agg #[.slice none 0 0, .slice none 0 0], .bool false]) (by simp [results, Tryd.results30, go_sem, r0, r1]) rfl ?_
    rw [HE.out]
    exact ⟨none, 0, 0, none, 0, 0, rfl, Fr.nil _ _, Fr.nil _ _, by rw [← hsf]; exact below_setFrom (Nat.le_refl _) _ 0 HBZ.out⟩
  | true =>
    rw [hVc] at hV CK
    have hV2 := hV
    rw [Bool.and_eq_true] at hV2
    have h32 := all32_of hV2.1
    have hrr : (Cons.roots tnd [] n m true RX p).2.2 = true := by rw [tcheck_roots hn1 hV2.2]
    obtain ⟨rA, hrA⟩ : ∃ r, Cl.co RX m n m true X p = r := ⟨_, rfl⟩
    obtain ⟨rB, hrB⟩ : ∃ r, Cl.fr RX m n m true Y p = r := ⟨_, rfl⟩
    obtain ⟨rC, hrC⟩ : ∃ r, Cl.pa m n m (raws f n) (raws g m) = r := ⟨_, rfl⟩
    have HE := Lib.hid (show consB f n g m p = rA.or (rB.or rC) by
      unfold consB
      rw [hX, hY, hRX, hRY, hV, if_pos ⟨hn1, hnm, rfl⟩]
      unfold consR
      rw [hX, hY, hRX, hrA, hrB, hrC])
    have CO := Lib.hid (show ∀ (L : Nat) (A' : Option Addr) (c' : Nat) (W : World), Below w.heap.size w W → OwnS W L A' n c' X → Calls Tryd.prog 68 #[.slice A' n c', .int .i64 (n : Int), .int .i64 (m : Int), .bool true, sv RX, .slice Ap np cp] W (ResPost W.heap.size rA W) from fun L A' c' W hW h => by
      rw [← hrA]; exact rold_any m A' c' X n m true RX Ap np cp p W (Nat.le_refl _) hn1 hnm hn2 h.ss hX32 hRXl (hp.keep hW) h32 hrr)
    have CFR := Lib.hid (show ∀ (L : Nat) (A' : Option Addr) (c' : Nat) (W : World), Below w.heap.size w W → OwnS W L A' m c' Y → Calls Tryd.prog 69 #[.slice A' m c', .int .i64 (n : Int), .int .i64 (m : Int), .bool true, sv RX, .slice Ap np cp] W (ResPost W.heap.size rB W) from fun L A' c' W hW h => by
      rw [← hrB]; exact rfresh_any m A' c' Y n m true RX Ap np cp p W (Nat.le_refl _) hn1 hnm hn2 h.ss hY32 hRXl (hp.keep hW) h32 hrr)
    have CPA := Lib.hid (show ∀ (W : World), Below w.heap.size w W → Calls Tryd.prog 70 #[.slice A n c, .slice B m k, .int .i64 (n : Int), .int .i64 (m : Int)] W (ResPost W.heap.size rC W) from fun W hW => by
      rw [← hrC]; exact rparts_any m A c f B m k g n m W (Nat.le_refl _) hn1 hnm (Nat.le_refl _) hn2 (hra.keep hW) ⟨hc1, hm1⟩ (hrb.keep hW) ⟨hc2, hm2⟩ hsf hsg)
    clear hra hrb hsf hsg hp hwf hX hY hX32 hY32 hXl hYl hRX hRY hRXl hw1 hrow hb0 hlt0 hV hVc hV2 h32 hrr hrA hrB hrC
    go_enter Tryd.func30, Tryd.ntmps30
    go_wp2_with fail
    rw [HW1.out]
    (with_reducible refine (CX.out w1 HB0.out).mono ?_)
    rintro e w3 ⟨AX, nX, cX, rfl, ho3, hb3⟩
    have HB3 := Lib.hid hb3
    have HX3 := Lib.hid ho3
    clear hb3 ho3
    go_wp2_with fail
    (with_reducible refine (CY.out w3 (bt HB0.out HB3.out)).mono ?_)
    rintro e w4 ⟨AY, nY, cY, rfl, ho4, hb4⟩
    have HB4 := Lib.hid (bt HB3.out hb4)
    have HX4 := Lib.hid (HX3.out.keep hb4)
    have HY4 := Lib.hid ho4
    clear hb4 ho4
    obtain rfl : n = nX := by rw [← HX4.out.len]; exact HXL.out.1.symm
    obtain rfl : m = nY := by rw [← HY4.out.len]; exact HXL.out.2.symm
    go_wp2_with fail
    (with_reducible refine (CRX.out _ AX n cX w4 HX4.out).mono ?_)
    rintro e w5 ⟨rfl, hb5⟩
    have HB5 := Lib.hid (bt HB4.out hb5)
    have HX5 := Lib.hid (HX4.out.keep hb5)
    have HY5 := Lib.hid (HY4.out.keep hb5)
    clear hb5
    go_wp2_with fail
    (with_reducible refine (CRY.out _ AY m cY w5 HY5.out).mono ?_)
    rintro e w6 ⟨rfl, hb6⟩
    have HB6 := Lib.hid (bt HB5.out hb6)
    have HX6 := Lib.hid (HX5.out.keep hb6)
    have HY6 := Lib.hid (HY5.out.keep hb6)
    clear hb6
    go_wp2_with fail
    (with_reducible refine (CK.out w6 (bt HB0.out HB6.out)).mono ?_)
    rintro e w7 ⟨rfl, hb7⟩
    have HB7 := Lib.hid (bt HB6.out hb7)
    have HX7 := Lib.hid (HX6.out.keep hb7)
    have HY7 := Lib.hid (HY6.out.keep hb7)
    clear hb7
    go_wp2_with fail
    (with_reducible refine (CO.out _ AX cX w7 (bt HB0.out HB7.out) HX7.out).mono ?_)
    rintro e w8 ⟨A7, n7, c7, B7, m7, k7, rfl, hf1, hf2, hbs⟩
    have HF := Lib.hid (And.intro (hf1.base (HB7.out).size) (hf2.base (HB7.out).size))
    have HBS := Lib.hid (bt (HB7.out) hbs)
    have HY8 := Lib.hid (HY7.out.keep hbs)
    clear hf1 hf2 hbs
    have hb9 : Below w8.heap.size w8 (w8.alloc (.cells #[.slice A7 n7 c7, .slice B7 m7 k7] 33)) := (Below.refl _ w8).alloc (Nat.le_refl _) _
    have HB9 := Lib.hid (bt HBS.out hb9)
    cases rA with
    | some r =>
      have hbox := row_new w8 #[.slice A7 n7 c7, .slice B7 m7 k7] 33
      have y0 := hbox.cellQ 0 _ rfl
      have y1 := hbox.cellQ 1 _ rfl
      clear hbox
      have hres := Row.belowS HROW0.out HB9.out (Nat.le_refl _)
      have x0 := hres.cellQ 0 _ rfl
      have x1 := hres.cellQ 1 _ rfl
      have f0 := hres.frozen 0
      have f1 := hres.frozen 1
      have HROWF := Lib.hid (show ∀ u v, Row (setFrom w.heap.size (w8.alloc (.cells #[.slice A7 n7 c7, .slice B7 m7 k7] 33)) 0 [u, v]) w.heap.size #[u, v] 33 from fun u v => hres.all [u, v] rfl)
      have HFF := Lib.hid (And.intro (HF.out.1.keep hb9) (HF.out.2.keep hb9))
      clear hres
      go_wp2
      generalize hwd : World.setCell (World.setCell (w8.alloc (.cells #[.slice A7 n7 c7, .slice B7 m7 k7] 33)) _ _) _ _ = wd
      have hsf : setFrom w.heap.size (w8.alloc (.cells #[.slice A7 n7 c7, .slice B7 m7 k7] 33)) 0 [.slice A7 n7 c7, .slice B7 m7 k7] = wd := by rw [← hwd]; rfl
      have r0 : wd.cell? ⟨w.heap.size, 0, none⟩ = some (.slice A7 n7 c7) := by rw [← hsf]; exact (HROWF.out _ _).cellQ 0 _ rfl
      have r1 : wd.cell? ⟨w.heap.size, 1, none⟩ = some (.slice B7 m7 k7) := by rw [← hsf]; exact (HROWF.out _ _).cellQ 1 _ rfl
      refine bodyPost_ret (v := .tuple #[.agg #[.slice A7 n7 c7, .slice B7 m7 k7], .bool true]) (by simp [results, Tryd.results30, go_sem, r0, r1]) rfl ?_
      rw [HE.out]
      exact ⟨A7, n7, c7, B7, m7, k7, rfl, by rw [← hsf]; exact (HFF.out.1.set HLT.out _ 0).base (Nat.le_of_lt HLT.out), by rw [← hsf]; exact (HFF.out.2.set HLT.out _ 0).base (Nat.le_of_lt HLT.out), by rw [← hsf]; exact below_setFrom (Nat.le_refl _) _ 0 (bt HB0.out HB9.out)⟩
    | none =>
      have HY9 := Lib.hid (HY8.out.keep hb9)
      clear hb9 HF
      obtain ⟨wy, hnx⟩ : ∃ wy, (w8.alloc (.cells #[.slice A7 n7 c7, .slice B7 m7 k7] 33)) = wy := ⟨_, rfl⟩
      rw [hnx] at HB9 HY9
      have HNwy := Lib.hid hnx
      have HYy := HY9
      have HBwy := HB9
      clear hnx HB9 HBS
      go_wp2_with fail
      rw [HNwy.out]
      (with_reducible refine (CFR.out _ AY cY wy (bt HB0.out HBwy.out) HYy.out).mono ?_)
      rintro e w9 ⟨A7, n7, c7, B7, m7, k7, rfl, hf1, hf2, hbs⟩
      have HF := Lib.hid (And.intro (hf1.base (HBwy.out).size) (hf2.base (HBwy.out).size))
      have HBS := Lib.hid (bt (HBwy.out) hbs)
      clear hf1 hf2 hbs
      have hb9 : Below w9.heap.size w9 (w9.alloc (.cells #[.slice A7 n7 c7, .slice B7 m7 k7] 33)) := (Below.refl _ w9).alloc (Nat.le_refl _) _
      have HB9 := Lib.hid (bt HBS.out hb9)
      cases rB with
      | some r =>
        have hbox := row_new w9 #[.slice A7 n7 c7, .slice B7 m7 k7] 33
        have y0 := hbox.cellQ 0 _ rfl
        have y1 := hbox.cellQ 1 _ rfl
        clear hbox
        have hres := Row.belowS HROW0.out HB9.out (Nat.le_refl _)
        have x0 := hres.cellQ 0 _ rfl
        have x1 := hres.cellQ 1 _ rfl
        have f0 := hres.frozen 0
        have f1 := hres.frozen 1
        have HROWF := Lib.hid (show ∀ u v, Row (setFrom w.heap.size (w9.alloc (.cells #[.slice A7 n7 c7, .slice B7 m7 k7] 33)) 0 [u, v]) w.heap.size #[u, v] 33 from fun u v => hres.all [u, v] rfl)
        have HFF := Lib.hid (And.intro (HF.out.1.keep hb9) (HF.out.2.keep hb9))
        clear hres
        go_wp2
        generalize hwd : World.setCell (World.setCell (w9.alloc (.cells #[.slice A7 n7 c7, .slice B7 m7 k7] 33)) _ _) _ _ = wd
        have hsf : setFrom w.heap.size (w9.alloc (.cells #[.slice A7 n7 c7, .slice B7 m7 k7] 33)) 0 [.slice A7 n7 c7, .slice B7 m7 k7] = wd := by rw [← hwd]; rfl
        have r0 : wd.cell? ⟨w.heap.size, 0, none⟩ = some (.slice A7 n7 c7) := by rw [← hsf]; exact (HROWF.out _ _).cellQ 0 _ rfl
        have r1 : wd.cell? ⟨w.heap.size, 1, none⟩ = some (.slice B7 m7 k7) := by rw [← hsf]; exact (HROWF.out _ _).cellQ 1 _ rfl
        refine bodyPost_ret (v := .tuple #[.agg #[.slice A7 n7 c7, .slice B7 m7 k7], .bool true]) (by simp [results, Tryd.results30, go_sem, r0, r1]) rfl ?_
        rw [HE.out]
        exact ⟨A7, n7, c7, B7, m7, k7, rfl, by rw [← hsf]; exact (HFF.out.1.set HLT.out _ 0).base (Nat.le_of_lt HLT.out), by rw [← hsf]; exact (HFF.out.2.set HLT.out _ 0).base (Nat.le_of_lt HLT.out), by rw [← hsf]; exact below_setFrom (Nat.le_refl _) _ 0 (bt HB0.out HB9.out)⟩
      | none =>
        clear hb9 HF
        obtain ⟨wz, hnx⟩ : ∃ wy, (w9.alloc (.cells #[.slice A7 n7 c7, .slice B7 m7 k7] 33)) = wy := ⟨_, rfl⟩
        rw [hnx] at HB9
        have HNwz := Lib.hid hnx
        have HBwz := HB9
        clear hnx HB9 HBS
        go_wp2_with fail
        rw [HNwz.out]
        (with_reducible refine (CPA.out wz (bt HB0.out HBwz.out)).mono ?_)
        rintro e w10 ⟨A11, n11, c11, B11, m11, k11, rfl, hf1, hf2, hb10⟩
        have HBX := Lib.hid (bt HBwz.out hb10)
        have HF9 := Lib.hid (And.intro (hf1.base HBwz.out.size) (hf2.base HBwz.out.size))
        clear hf1 hf2 hb10
        have hres := Row.belowS HROW0.out HBX.out (Nat.le_refl _)
        have x0 := hres.cellQ 0 _ rfl
        have x1 := hres.cellQ 1 _ rfl
        have f0 := hres.frozen 0
        have f1 := hres.frozen 1
        have HROWF := Lib.hid (show ∀ u v, Row (setFrom w.heap.size w10 0 [u, v]) w.heap.size #[u, v] 33 from fun u v => hres.all [u, v] rfl)
        have HFF := Lib.hid (And.intro (HF9.out.1) (HF9.out.2))
        clear hres
        go_wp2
        generalize hwd : World.setCell (World.setCell w10 _ _) _ _ = wd
        have hsf : setFrom w.heap.size w10 0 [.slice A11 n11 c11, .slice B11 m11 k11] = wd := by rw [← hwd]; rfl
        have r0 : wd.cell? ⟨w.heap.size, 0, none⟩ = some (.slice A11 n11 c11) := by rw [← hsf]; exact (HROWF.out _ _).cellQ 0 _ rfl
        have r1 : wd.cell? ⟨w.heap.size, 1, none⟩ = some (.slice B11 m11 k11) := by rw [← hsf]; exact (HROWF.out _ _).cellQ 1 _ rfl
        refine bodyPost_ret (v := .tuple #[.agg #[.slice A11 n11 c11, .slice B11 m11 k11], .bool rC.isSome]) (by simp [results, Tryd.results30, go_sem, r0, r1]) rfl ?_
        rw [HE.out]
        exact ⟨A11, n11, c11, B11, m11, k11, rfl, by rw [← hsf]; exact (HFF.out.1.set HLT.out _ 0).base (Nat.le_of_lt HLT.out), by rw [← hsf]; exact (HFF.out.2.set HLT.out _ 0).base (Nat.le_of_lt HLT.out), by rw [← hsf]; exact below_setFrom (Nat.le_refl _) _ 0 (bt HB0.out HBX.out)⟩
end Go.Proofs.YtlcdpbpbfofmmaaDoor
