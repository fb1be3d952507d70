/- MConsB: several texts of this claim in one file. No statement of the seat is proved here. -/
import Derived.Test.YtoiilhbjlfdfpaaDoorMConsA
namespace Go.Proofs.YtoiilhbjlfdfpaaDoor
set_option linter.unusedVariables false
open Go.RowKit

theorem roots_len (one : List UInt8) (h1 : one.length ≤ 100000) : ∀ (q m n : Nat) (wh : Bool) (p : List (List UInt8)), n ≤ q → (∀ s ∈ p, s.length = 32) → (Cons.roots tnd [] m n wh one p).1.length ≤ 100000 ∧ (Cons.roots tnd [] m n wh one p).2.1.length ≤ 100000 := by
  intro q
  induction q with
  | zero =>
    intro m n wh p hn hp
    by_cases he : m = n
    · subst he
      cases wh with
      | true => rw [Cons.roots_whole]; exact ⟨h1, h1⟩
      | false =>
        match p with
        | [] => rw [Cons.roots_bad _ _ _ _ _ (by simp)]; simp
        | [x] => rw [Cons.roots_one]; have := hp x (by simp); exact ⟨by simp [this], by simp [this]⟩
        | x :: y :: r => rw [Cons.roots_bad _ _ _ _ _ (by simp)]; simp
    · rcases List.eq_nil_or_concat p with rfl | ⟨r, d, rfl⟩
      · rw [Cons.roots_nil _ _ he]; simp
      · rw [Cons.roots, if_neg he, if_neg (by simp), dif_pos (by omega)]; simp
  | succ q ih =>
    intro m n wh p hn hp
    by_cases he : m = n
    · subst he
      cases wh with
      | true => rw [Cons.roots_whole]; exact ⟨h1, h1⟩
      | false =>
        match p with
        | [] => rw [Cons.roots_bad _ _ _ _ _ (by simp)]; simp
        | [x] => rw [Cons.roots_one]; have := hp x (by simp); exact ⟨by simp [this], by simp [this]⟩
        | x :: y :: r => rw [Cons.roots_bad _ _ _ _ _ (by simp)]; simp
    · rcases List.eq_nil_or_concat p with rfl | ⟨r, d, rfl⟩
      · rw [Cons.roots_nil _ _ he]; simp
      · by_cases h2 : n < 2
        · rw [Cons.roots, if_neg he, if_neg (by simp), dif_pos h2]; simp
        · rw [List.concat_eq_append] at hp ⊢
          by_cases hk : m ≤ Tree.sp n
          · have kl := Tree.sp_lt (n := n) (by omega)
            have := ih m (Tree.sp n) wh r (by omega) (fun s hs => hp s (List.mem_append.2 (.inl hs)))
            rw [Cons.roots_left _ _ (by omega) he hk]
            exact ⟨this.1, by rw [tnd_len]; omega⟩
          · rw [Cons.roots_right _ _ (by omega) he hk]
            exact ⟨by rw [tnd_len]; omega, by rw [tnd_len]; omega⟩
/-- What Roots tells. -/
def RootsPost (r : List UInt8 × List UInt8 × Bool) (w : World) (e : Ending) (w' : World) : Prop := e = .returned (.tuple #[sv r.1, sv r.2.1, .bool r.2.2]) ∧ Below w.heap.size w w'
set_option maxRecDepth 100000 in
set_option maxHeartbeats 16000000 in
theorem roots_any : ∀ (q m n : Nat) (wh : Bool) (one : List UInt8) (A : Option Addr) (k c : Nat) (p : List (List UInt8)) (w : World), n ≤ q → 1 ≤ m → m ≤ n → n ≤ 1099511627776 → one.length ≤ 100000 → Ss w A k c p → (∀ s ∈ p, s.length = 32) →
    Calls Tryd.prog 58 #[.int .i64 (m : Int), .int .i64 (n : Int), .bool wh, sv one, .slice A k c] w (RootsPost (Cons.roots tnd [] m n wh one p) w)
  | q, m, n, wh, one, A, k, c, p, w, hq, hm1, hmn, hn, h1, hs, h32 => by
    have hmx := hs.max
    have hcap := hs.cap
    rw [maxLen_eq] at hmx
    have HLN := Lib.hid hs.len
    by_cases he : m = n
    · subst he
      have b1 : ((m : Int) == (m : Int)) = true := by simp
      cases wh with
      | true =>
        rw [Cons.roots_whole, hs.len]
        clear h32 h1 hs
        by_cases hk0 : k = 0
        · subst hk0
          go_enter Tryd.func58, Tryd.ntmps58
          go_wp2
          go_ret3
          exact ⟨rfl, Below.refl _ _⟩
        · have b0 : ((k : Int) == 0) = false := beq_eq_false_iff_ne.2 (by omega)
          rw [decide_eq_false hk0]
          go_enter Tryd.func58, Tryd.ntmps58
          go_wp2
          go_ret3
          exact ⟨rfl, Below.refl _ _⟩
      | false =>
        by_cases hk1 : k = 1
        · subst hk1
          obtain ⟨b, off, rfl, hbb, hcell, x, hx⟩ := hs.at (k := 0) (by omega)
          have X0 := Lib.hid (show ∀ W, Below w.heap.size w W → W.cell? ⟨b, off, none⟩ = some (sv x) from fun W hW => (hW.cell (p := ⟨b, off, none⟩) hbb).trans (hcell 0 x hx))
          have HE := Lib.hid (show Cons.roots tnd [] m m false one p = (x, x, true) by
            have hl := HLN.out
            match p, hl, hx with
            | [y], _, hx =>
              simp at hx
              subst hx
              exact Cons.roots_one _ _ _ _ _)
          clear h32 h1 hs hcell hx
          go_enter Tryd.func58, Tryd.ntmps58
          go_wp2_with fail
          refine Free.wp_free_l 9 (fun W => Below w.heap.size w W) [Free.kc (.slice (some ⟨b, off, none⟩) 1 c), Free.kc (.pointer (some ⟨b, off, none⟩)), Free.kc (sv x), Free.kc (.slice (some ⟨b, off, none⟩) 1 c), Free.kc (.pointer (some ⟨b, off, none⟩)), Free.kc (sv x), Free.kc (sv x), Free.kc (sv x), Free.kc (Value.bool true)] (by kernel_rfl) (by kernel_rfl) (by decide) (Below.refl _ _).drew (fun w w' h g => bt h g) ?_ ?_
          · refine Free.forall_succ (Free.forall_succ (Free.forall_succ (Free.forall_succ (Free.forall_succ (Free.forall_succ (Free.forall_succ (Free.forall_succ (Free.forall_succ (Free.forall_zero) ?_) ?_) ?_) ?_) ?_) ?_) ?_) ?_) ?_
            · exact Free.ob_plain _ rfl rfl fun vals wq hC hd => (by exact Free.d_move rfl (by kernel_rfl) rfl)
            · exact Free.ob_plain _ rfl rfl fun vals wq hC hd => (by exact Free.d_indexAddr rfl (Eq.trans (b := vals 0) (by kernel_rfl) (hd 0 (by kernel_rfl))) (show _ = (Value.int .i64 0) from rfl) (run_idx 22 Tryd.underlying22 (by kernel_rfl) b off 1 c 0 _ (by rfl) (by omega)) rfl)
            · exact Free.ob_plain _ rfl rfl fun vals wq hC hd => (by exact Free.d_load rfl (Eq.trans (b := vals 1) (by kernel_rfl) (hd 1 (by kernel_rfl))) (by have hcc := X0.out wq hC; go_simp) rfl)
            · exact Free.ob_plain _ rfl rfl fun vals wq hC hd => (by exact Free.d_move rfl (by kernel_rfl) rfl)
            · exact Free.ob_plain _ rfl rfl fun vals wq hC hd => (by exact Free.d_indexAddr rfl (Eq.trans (b := vals 3) (by kernel_rfl) (hd 3 (by kernel_rfl))) (show _ = (Value.int .i64 0) from rfl) (run_idx 22 Tryd.underlying22 (by kernel_rfl) b off 1 c 0 _ (by rfl) (by omega)) rfl)
            · exact Free.ob_plain _ rfl rfl fun vals wq hC hd => (by exact Free.d_load rfl (Eq.trans (b := vals 4) (by kernel_rfl) (hd 4 (by kernel_rfl))) (by have hcc := X0.out wq hC; go_simp) rfl)
            · exact Free.ob_plain _ rfl rfl fun vals wq hC hd => (by exact Free.d_assign rfl (Eq.trans (b := vals 2) (by kernel_rfl) (hd 2 (by kernel_rfl))) rfl)
            · exact Free.ob_plain _ rfl rfl fun vals wq hC hd => (by exact Free.d_assign rfl (Eq.trans (b := vals 5) (by kernel_rfl) (hd 5 (by kernel_rfl))) rfl)
            · exact Free.ob_plain _ rfl rfl fun vals wq hC hd => (by exact Free.d_assign rfl rfl rfl)
          · intro vals wq hC hd
            have e0 : vals 0 = (.slice (some ⟨b, off, none⟩) 1 c) := hd 0 (by decide)
            have e1 : vals 1 = (.pointer (some ⟨b, off, none⟩)) := hd 1 (by decide)
            have e2 : vals 2 = (sv x) := hd 2 (by decide)
            have e3 : vals 3 = (.slice (some ⟨b, off, none⟩) 1 c) := hd 3 (by decide)
            have e4 : vals 4 = (.pointer (some ⟨b, off, none⟩)) := hd 4 (by decide)
            have e5 : vals 5 = (sv x) := hd 5 (by decide)
            have e6 : vals 6 = (sv x) := hd 6 (by decide)
            have e7 : vals 7 = (sv x) := hd 7 (by decide)
            have e8 : vals 8 = (Value.bool true) := hd 8 (by decide)
            simp only [Free.frameOf, List.range, List.range.loop, List.foldl, Free.dstOf, List.getElem?_toArray, List.getElem?_cons_zero, List.getElem?_cons_succ, Option.bind_some, Act.put, List.setIfInBounds_toArray, List.set_cons_zero, List.set_cons_succ, e0, e1, e2, e3, e4, e5, e6, e7, e8]
            refine wpList_nil ?_
            clear hd e0 e1 e2 e3 e4 e5 e6 e7 e8
            have HB := Lib.hid hC
            clear hC
            go_wp2
            go_ret3
            exact ⟨by rw [HE.out]; rfl, HB.out⟩
        · have b0 : ((k : Int) == 1) = false := beq_eq_false_iff_ne.2 (by omega)
          have HE := Lib.hid (Cons.roots_bad tnd [] m one p (by rw [HLN.out]; exact hk1))
          clear h32 h1 hs
          go_enter Tryd.func58, Tryd.ntmps58
          go_wp2
          go_ret3
          exact ⟨by rw [HE.out]; rfl, Below.refl _ _⟩
    · have b1 : ((m : Int) == (n : Int)) = false := beq_eq_false_iff_ne.2 (by omega)
      by_cases hk0 : k = 0
      · subst hk0
        have HE := Lib.hid (show Cons.roots tnd [] m n wh one p = ([], [], false) by
          rw [List.length_eq_zero_iff.1 HLN.out]; exact Cons.roots_nil _ _ he _ _)
        clear h32 h1 hs
        go_enter Tryd.func58, Tryd.ntmps58
        go_wp2
        go_ret3
        exact ⟨by rw [HE.out]; rfl, Below.refl _ _⟩
      · have b0 : ((k : Int) == 0) = false := beq_eq_false_iff_ne.2 (by omega)
        match q, hq with
        | 0, hq => omega
        | q + 1, hq =>
        obtain ⟨k0, hkk⟩ : ∃ k0, Tree.sp n = k0 := ⟨_, rfl⟩
        have kp := Tree.sp_pos (n := n) (by omega)
        have kl := Tree.sp_lt (n := n) (by omega)
        rw [hkk] at kp kl
        have HSP := Lib.hid (show Tree.spz (n : Int) = k0 by rw [Tree.spz_in (by omega) (by omega), hkk])
        obtain ⟨t, ht⟩ : ∃ t, t + 1 = k := ⟨k - 1, by omega⟩
        have e1 : (k : Int) - 1 = (t : Int) := by omega
        obtain ⟨b, off, rfl, hbb, hcell, x, hx⟩ := hs.at (k := t) (by omega)
        have x0 := hcell t x hx
        have hp : p = p.take t ++ [x] := by
          have := List.take_add_one (l := p) (i := t)
          rw [hx, List.take_of_length_le (by rw [HLN.out]; omega)] at this
          exact this
        have HX32 := Lib.hid (show x.length ≤ 100000 by rw [h32 x (List.mem_of_getElem? hx)]; omega)
        have HT32 := Lib.hid (all_take h32 t)
        have HS := Lib.hid hs
        have HH1 := Lib.hid h1
        have IH := Lib.hid (fun (m' n' : Nat) (wh' : Bool) (A' : Option Addr) (k' c' : Nat) (W : World) (g1 : n' ≤ q ∧ 1 ≤ m' ∧ m' ≤ n') (g2 : n' ≤ 1099511627776) (g3 : Ss W A' k' c' (p.take t)) => roots_any q m' n' wh' one A' k' c' (p.take t) W g1.1 g1.2.1 g1.2.2 g2 HH1.out g3 HT32.out)
        unfold RootsPost at IH
        by_cases hlt : m ≤ k0
        · have HE := Lib.hid (show Cons.roots tnd [] m n wh one p = ((Cons.roots tnd [] m k0 wh one (p.take t)).1, tnd (Cons.roots tnd [] m k0 wh one (p.take t)).2.1 x, (Cons.roots tnd [] m k0 wh one (p.take t)).2.2) by
            have := Cons.roots_left tnd [] (by omega) he (by rw [hkk]; exact hlt) wh one (p.take t) x
            rw [← hp, hkk] at this
            exact this)
          have hL := roots_len one h1 k0 m k0 wh (p.take t) (Nat.le_refl _) HT32.out
          have hr := fun (A' : Option Addr) (k' c' : Nat) (W : World) (g3 : Ss W A' k' c' (p.take t)) => IH.out m k0 wh A' k' c' W (by omega) (by omega) g3
          obtain ⟨r, hr0⟩ : ∃ r, Cons.roots tnd [] m k0 wh one (p.take t) = r := ⟨_, rfl⟩
          rw [hr0] at HE hL hr
          obtain ⟨ra, rb, ro⟩ := r
          have HL := Lib.hid hL
          have HR := Lib.hid hr
          have hci : (m : Int) ≤ (k0 : Int) := by omega
          clear hcell hx hp h32 h1 hs hkk hr0 hr hL IH
          go_enter Tryd.func58, Tryd.ntmps58
          go_wp2_with fail
          refine (rsplit_any (n : Int) w (by omega) (by omega)).mono ?_
          rintro e w1 ⟨rfl, rfl⟩
          rw [HSP.out]
          go_wp2_with (refine wl_cutS_hi rfl (.tmp 51) (.tmp 54) rfl rfl HS.out t rfl (by omega) ?_; intro A2 hs2)
          refine (HR.out A2 t c w hs2).mono ?_
          rintro e w3 ⟨rfl, hb3⟩
          have HB3 := Lib.hid hb3
          clear hb3
          go_wp2_with fail
          refine (rnode_any rb x w3 HL.out.2 HX32.out).mono ?_
          rintro e w4 ⟨rfl, hb4⟩
          have HB4 := Lib.hid (bt HB3.out hb4)
          clear hb4
          go_wp2
          go_ret3
          exact ⟨by rw [HE.out]; rfl, HB4.out⟩
        · obtain ⟨j, hj⟩ : ∃ j, j + k0 = m := ⟨m - k0, by omega⟩
          obtain ⟨n2, hn2⟩ : ∃ n2, n2 + k0 = n := ⟨n - k0, by omega⟩
          have e2 : (m : Int) - (k0 : Int) = (j : Int) := by omega
          have e3 : (n : Int) - (k0 : Int) = (n2 : Int) := by omega
          have HE := Lib.hid (show Cons.roots tnd [] m n wh one p = (tnd x (Cons.roots tnd [] j n2 false one (p.take t)).1, tnd x (Cons.roots tnd [] j n2 false one (p.take t)).2.1, (Cons.roots tnd [] j n2 false one (p.take t)).2.2) by
            have := Cons.roots_right tnd [] (by omega) he (by rw [hkk]; exact hlt) wh one (p.take t) x
            rw [← hp, hkk, show m - k0 = j by omega, show n - k0 = n2 by omega] at this
            exact this)
          have hL := roots_len one h1 n2 j n2 false (p.take t) (Nat.le_refl _) HT32.out
          have hr := fun (A' : Option Addr) (k' c' : Nat) (W : World) (g3 : Ss W A' k' c' (p.take t)) => IH.out j n2 false A' k' c' W (by omega) (by omega) g3
          obtain ⟨r, hr0⟩ : ∃ r, Cons.roots tnd [] j n2 false one (p.take t) = r := ⟨_, rfl⟩
          rw [hr0] at HE hL hr
          obtain ⟨ra, rb, ro⟩ := r
          have HL := Lib.hid hL
          have HR := Lib.hid hr
          have hci : ¬ (m : Int) ≤ (k0 : Int) := by omega
          have hci2 : (k0 : Int) < (m : Int) := by omega
          clear hcell hx hp h32 h1 hs hkk hr0 hr hL IH
          go_enter Tryd.func58, Tryd.ntmps58
          go_wp2_with fail
          refine (rsplit_any (n : Int) w (by omega) (by omega)).mono ?_
          rintro e w1 ⟨rfl, rfl⟩
          rw [HSP.out]
          go_wp2_with (refine wl_cutS_hi rfl (.tmp 51) (.tmp 54) rfl rfl HS.out t rfl (by omega) ?_; intro A2 hs2)
          refine (HR.out A2 t c w hs2).mono ?_
          rintro e w3 ⟨rfl, hb3⟩
          have HB3 := Lib.hid hb3
          clear hb3
          go_wp2_with fail
          refine (rnode_any x ra w3 HX32.out HL.out.1).mono ?_
          rintro e w4 ⟨rfl, hb4⟩
          have HB4 := Lib.hid (bt HB3.out hb4)
          clear hb4
          go_wp2_with fail
          refine (rnode_any x rb w4 HX32.out HL.out.2).mono ?_
          rintro e w5 ⟨rfl, hb5⟩
          have HB5 := Lib.hid (bt HB4.out hb5)
          clear hb5
          go_wp2
          go_ret3
          exact ⟨by rw [HE.out]; rfl, HB5.out⟩
set_option maxRecDepth 100000 in
set_option maxHeartbeats 8000000 in
theorem ccheck_arg (m n : Int) (one two : List UInt8) (A : Option Addr) (k c : Nat) (w : World) (hl1 : one.length ≤ 1000) (hl2 : two.length ≤ 1000) (h1 : -9223372036854775808 ≤ m) (h2 : m ≤ 9223372036854775807) (h3 : -9223372036854775808 ≤ n) (h4 : n ≤ 9223372036854775807)
    (hbad : m < 0 ∨ n < m ∨ 1099511627776 < n ∨ ¬ one.length = 32 ∨ ¬ two.length = 32) :
    Calls Tryd.prog 37 #[.int .i64 m, .int .i64 n, sv one, sv two, .slice A k c] w (RetI 1 w) := by
  have z1 := strLen one
  have z2 := strLen two
  obtain ⟨q1, hq1⟩ : ∃ q, one.length = q := ⟨_, rfl⟩
  obtain ⟨q2, hq2⟩ : ∃ q, two.length = q := ⟨_, rfl⟩
  rw [hq1] at z1 hl1 hbad
  rw [hq2] at z2 hl2 hbad
  clear hq1 hq2
  by_cases a1 : m < 0
  · clear hbad
    go_enter Tryd.func37, Tryd.ntmps37
    go_wp2
    go_ret
    exact ⟨rfl, Below.refl _ _⟩
  · by_cases a2 : n < m
    · clear hbad
      go_enter Tryd.func37, Tryd.ntmps37
      go_wp2
      go_ret
      exact ⟨rfl, Below.refl _ _⟩
    · by_cases a3 : 1099511627776 < n
      · clear hbad
        go_enter Tryd.func37, Tryd.ntmps37
        go_wp2
        go_ret
        exact ⟨rfl, Below.refl _ _⟩
      · by_cases a4 : q1 = 32
        · by_cases a5 : q2 = 32
          · exfalso
            rcases hbad with h | h | h | h | h <;> omega
          · have b5 : ¬ (q2 : Int) = 32 := by omega
            have b6 : ((q2 : Int) == 32) = false := beq_eq_false_iff_ne.2 b5
            subst a4
            clear hbad
            go_enter Tryd.func37, Tryd.ntmps37
            go_wp2
            go_ret
            exact ⟨rfl, Below.refl _ _⟩
        · have b5 : ¬ (q1 : Int) = 32 := by omega
          have b6 : ((q1 : Int) == 32) = false := beq_eq_false_iff_ne.2 b5
          clear hbad
          go_enter Tryd.func37, Tryd.ntmps37
          go_wp2
          go_ret
          exact ⟨rfl, Below.refl _ _⟩
set_option maxRecDepth 100000 in
set_option maxHeartbeats 8000000 in
theorem fair_no (m n : Int) (one two : List UInt8) (w : World) (hl1 : one.length ≤ 1000) (hl2 : two.length ≤ 1000) (h1 : -9223372036854775808 ≤ m) (h2 : m ≤ 9223372036854775807) (h3 : -9223372036854775808 ≤ n) (h4 : n ≤ 9223372036854775807)
    (hbad : m < 0 ∨ n < m ∨ 1099511627776 < n ∨ ¬ one.length = 32 ∨ ¬ two.length = 32) :
    Calls Tryd.prog 38 #[.int .i64 m, .int .i64 n, sv one, sv two] w (RetB false w) := by
  have z1 := strLen one
  have z2 := strLen two
  obtain ⟨q1, hq1⟩ : ∃ q, one.length = q := ⟨_, rfl⟩
  obtain ⟨q2, hq2⟩ : ∃ q, two.length = q := ⟨_, rfl⟩
  rw [hq1] at z1 hl1 hbad
  rw [hq2] at z2 hl2 hbad
  clear hq1 hq2
  by_cases a1 : m < 0
  · clear hbad
    go_enter Tryd.func38, Tryd.ntmps38
    go_wp2
    go_ret
    exact ⟨rfl, Below.refl _ _⟩
  · by_cases a2 : n < m
    · clear hbad
      go_enter Tryd.func38, Tryd.ntmps38
      go_wp2
      go_ret
      exact ⟨rfl, Below.refl _ _⟩
    · by_cases a3 : 1099511627776 < n
      · clear hbad
        go_enter Tryd.func38, Tryd.ntmps38
        go_wp2
        go_ret
        exact ⟨rfl, Below.refl _ _⟩
      · by_cases a4 : q1 = 32
        · by_cases a5 : q2 = 32
          · exfalso
            rcases hbad with h | h | h | h | h <;> omega
          · have b5 : ¬ (q2 : Int) = 32 := by omega
            have b6 : ((q2 : Int) == 32) = false := beq_eq_false_iff_ne.2 b5
            subst a4
            clear hbad
            go_enter Tryd.func38, Tryd.ntmps38
            go_wp2
            go_ret
            exact ⟨rfl, Below.refl _ _⟩
        · have b5 : ¬ (q1 : Int) = 32 := by omega
          have b6 : ((q1 : Int) == 32) = false := beq_eq_false_iff_ne.2 b5
          clear hbad
          go_enter Tryd.func38, Tryd.ntmps38
          go_wp2
          go_ret
          exact ⟨rfl, Below.refl _ _⟩
set_option maxRecDepth 100000 in
set_option maxHeartbeats 8000000 in
theorem fair_yes (m n : Nat) (one two : List UInt8) (w : World) (hmn : m ≤ n) (hn : n ≤ 1099511627776) (h1 : one.length = 32) (h2 : two.length = 32) :
    Calls Tryd.prog 38 #[.int .i64 (m : Int), .int .i64 (n : Int), sv one, sv two] w (RetB true w) := by
  have z1 := strLen one
  have z2 := strLen two
  rw [h1] at z1
  rw [h2] at z2
  have g1 : (0 : Int) ≤ (m : Int) := by omega
  have g2 : (m : Int) ≤ (n : Int) := by omega
  have g3 : (n : Int) ≤ (1099511627776 : Int) := by omega
  clear h1 h2
  go_enter Tryd.func38, Tryd.ntmps38
  go_wp2
  go_ret
  exact ⟨rfl, Below.refl _ _⟩
set_option maxRecDepth 100000 in
set_option maxHeartbeats 8000000 in
theorem rcheck_any (m n : Nat) (one two : List UInt8) (A : Option Addr) (k c : Nat) (p : List (List UInt8)) (w : World) (hs : Ss w A k c p) (hwf : ∀ s ∈ p, s.length ≤ maxLen) (hmn : m ≤ n) (hn : n ≤ 1099511627776) (h1 : one.length = 32) :
    Calls Tryd.prog 39 #[.int .i64 (m : Int), .int .i64 (n : Int), sv one, sv two, .slice A k c] w (RetB (Tree.all32 p && tcheck m n one two p) w) := by
  have hmx := hs.max
  have hcap := hs.cap
  rw [maxLen_eq] at hmx
  have hln := hs.len
  have hr6 := right6_any A k c p w hs hwf
  cases ha : Tree.all32 p with
  | false =>
    rw [ha] at hr6
    have HR6 := Lib.hid hr6
    have HV := Lib.hid (show (false && tcheck m n one two p) = false from rfl)
    clear hr6 hs hwf ha
    go_enter Tryd.func39, Tryd.ntmps39
    go_wp2_with fail
    refine HR6.out.mono ?_
    rintro e w1 ⟨rfl, rfl⟩
    go_wp2
    go_ret
    exact ⟨by rw [HV.out]; rfl, Below.refl _ _⟩
  | true =>
    rw [ha] at hr6
    have h32 := Tree.all32_iff.1 ha
    have HR6 := Lib.hid hr6
    rw [Bool.true_and]
    clear hr6 hwf ha
    by_cases hm0 : m = 0
    · subst hm0
      rw [tcheck_zero, hln]
      obtain ⟨V, hV⟩ : ∃ V, (decide (k = 0) && decide (one = tnil)) = V := ⟨_, rfl⟩
      rw [hV]
      have SN := Lib.hid (rsum_any none 0 0 [] w Rd.nil rfl (Nat.le_refl _) (by decide) (by omega))
      have e1 := strEq one (Sha.sum [])
      clear hs h32 hln
      by_cases hk0 : k = 0
      · subst hk0
        by_cases he : one = Sha.sum []
        · rw [decide_eq_true he] at e1
          have HE := Lib.hid (show V = true by rw [← hV, decide_eq_true (show one = tnil from he)]; rfl)
          clear he hV
          go_enter Tryd.func39, Tryd.ntmps39
          go_wp2_with fail
          refine HR6.out.mono ?_
          rintro e w1 ⟨rfl, rfl⟩
          go_wp2_with fail
          refine SN.out.mono ?_
          rintro e w1 ⟨rfl, hb1⟩
          have HB1 := Lib.hid hb1
          clear hb1
          go_wp2
          go_ret
          exact ⟨by rw [HE.out]; rfl, HB1.out⟩
        · rw [decide_eq_false he] at e1
          have HE := Lib.hid (show V = false by rw [← hV, decide_eq_false (show ¬ one = tnil from he)]; rfl)
          clear he hV
          go_enter Tryd.func39, Tryd.ntmps39
          go_wp2_with fail
          refine HR6.out.mono ?_
          rintro e w1 ⟨rfl, rfl⟩
          go_wp2_with fail
          refine SN.out.mono ?_
          rintro e w1 ⟨rfl, hb1⟩
          have HB1 := Lib.hid hb1
          clear hb1
          go_wp2
          go_ret
          exact ⟨by rw [HE.out]; rfl, HB1.out⟩
      · have b0 : ((k : Int) == 0) = false := beq_eq_false_iff_ne.2 (by omega)
        have HE := Lib.hid (show V = false by rw [← hV, decide_eq_false hk0]; rfl)
        clear hV
        go_enter Tryd.func39, Tryd.ntmps39
        go_wp2_with fail
        refine HR6.out.mono ?_
        rintro e w1 ⟨rfl, rfl⟩
        go_wp2
        go_ret
        exact ⟨by rw [HE.out]; rfl, Below.refl _ _⟩
    · have b0 : ((m : Int) == 0) = false := beq_eq_false_iff_ne.2 (by omega)
      have hra := roots_any n m n true one A k c p w (Nat.le_refl _) (by omega) hmn hn (by omega) hs h32
      unfold tcheck
      rw [if_neg hm0]
      obtain ⟨r, hr0⟩ : ∃ r, Cons.roots tnd [] m n true one p = r := ⟨_, rfl⟩
      rw [hr0] at hra ⊢
      obtain ⟨ra, rb, ro⟩ := r
      obtain ⟨V, hV⟩ : ∃ V, (ro && decide (ra = one) && decide (rb = two)) = V := ⟨_, rfl⟩
      show Calls _ _ _ _ (RetB (ro && decide (ra = one) && decide (rb = two)) w)
      rw [hV]
      have HRA := Lib.hid hra
      have e1 := strEq ra one
      have e2 := strEq rb two
      clear hra hr0 hs h32
      cases ro with
      | false =>
        have HE := Lib.hid (show V = false by rw [← hV]; rfl)
        clear hV e1 e2
        go_enter Tryd.func39, Tryd.ntmps39
        go_wp2_with fail
        refine HR6.out.mono ?_
        rintro e w1 ⟨rfl, rfl⟩
        go_wp2_with fail
        refine HRA.out.mono ?_
        rintro e w1 ⟨rfl, hb1⟩
        have HB1 := Lib.hid hb1
        clear hb1
        go_wp2
        go_ret
        exact ⟨by rw [HE.out]; rfl, HB1.out⟩
      | true =>
        by_cases h1' : ra = one
        · rw [decide_eq_true h1'] at e1 hV
          by_cases h2' : rb = two
          · rw [decide_eq_true h2'] at e2 hV
            have HE := Lib.hid (show V = true by rw [← hV]; rfl)
            clear hV h1' h2'
            go_enter Tryd.func39, Tryd.ntmps39
            go_wp2_with fail
            refine HR6.out.mono ?_
            rintro e w1 ⟨rfl, rfl⟩
            go_wp2_with fail
            refine HRA.out.mono ?_
            rintro e w1 ⟨rfl, hb1⟩
            have HB1 := Lib.hid hb1
            clear hb1
            go_wp2
            go_ret
            exact ⟨by rw [HE.out]; rfl, HB1.out⟩
          · rw [decide_eq_false h2'] at e2 hV
            have HE := Lib.hid (show V = false by rw [← hV]; rfl)
            clear hV h1' h2'
            go_enter Tryd.func39, Tryd.ntmps39
            go_wp2_with fail
            refine HR6.out.mono ?_
            rintro e w1 ⟨rfl, rfl⟩
            go_wp2_with fail
            refine HRA.out.mono ?_
            rintro e w1 ⟨rfl, hb1⟩
            have HB1 := Lib.hid hb1
            clear hb1
            go_wp2
            go_ret
            exact ⟨by rw [HE.out]; rfl, HB1.out⟩
        · rw [decide_eq_false h1'] at e1 hV
          have HE := Lib.hid (show V = false by rw [← hV]; rfl)
          clear hV h1'
          go_enter Tryd.func39, Tryd.ntmps39
          go_wp2_with fail
          refine HR6.out.mono ?_
          rintro e w1 ⟨rfl, rfl⟩
          go_wp2_with fail
          refine HRA.out.mono ?_
          rintro e w1 ⟨rfl, hb1⟩
          have HB1 := Lib.hid hb1
          clear hb1
          go_wp2
          go_ret
          exact ⟨by rw [HE.out]; rfl, HB1.out⟩
end Go.Proofs.YtoiilhbjlfdfpaaDoor

namespace Go.Proofs.YtoiilhbjlfdfpaaDoor
set_option linter.unusedVariables false
open Go.RowKit

theorem hv0 : seal_ 0 [0] = [150, 162, 150, 210, 36, 242, 133, 198, 123, 238, 147, 195, 15, 138, 48, 145, 87, 240, 218, 163, 93, 197, 184, 126, 65, 11, 120, 99, 10, 9, 207, 199] := by decide +kernel
theorem hv1 : seal_ 0 [1] = [180, 19, 244, 125, 19, 238, 47, 230, 200, 69, 178, 238, 20, 26, 248, 29, 232, 88, 223, 78, 197, 73, 165, 139, 121, 112, 187, 150, 100, 91, 200, 210] := by decide +kernel
theorem hv2 : seal_ 0 [2] = [252, 240, 166, 199, 0, 221, 19, 226, 116, 182, 251, 168, 222, 234, 141, 217, 178, 110, 78, 237, 222, 52, 149, 113, 124, 172, 132, 8, 201, 197, 23, 127] := by decide +kernel
theorem hv3 : seal_ 0 [3] = [88, 60, 125, 251, 123, 48, 85, 217, 148, 101, 84, 64, 50, 165, 113, 225, 10, 19, 75, 27, 111, 118, 148, 34, 187, 183, 31, 215, 250, 22, 122, 93] := by decide +kernel
theorem hv4 : seal_ 0 [4] = [79, 53, 33, 45, 18, 249, 173, 32, 54, 73, 44, 149, 241, 254, 121, 186, 244, 236, 123, 217, 190, 243, 223, 250, 117, 121, 242, 41, 63, 245, 70, 164] := by decide +kernel
theorem hv5 : seal_ 0 [5] = [159, 26, 250, 77, 193, 36, 203, 167, 49, 52, 232, 47, 245, 15, 23, 200, 247, 22, 66, 87, 199, 159, 237, 154, 19, 245, 148, 58, 106, 203, 142, 61] := by decide +kernel
theorem hv6 : seal_ 0 [6] = [64, 216, 129, 39, 212, 211, 26, 56, 145, 244, 21, 152, 238, 237, 65, 23, 78, 91, 200, 155, 30, 185, 187, 214, 106, 140, 191, 192, 153, 86, 163, 253] := by decide +kernel
theorem hn01 : tnd [150, 162, 150, 210, 36, 242, 133, 198, 123, 238, 147, 195, 15, 138, 48, 145, 87, 240, 218, 163, 93, 197, 184, 126, 65, 11, 120, 99, 10, 9, 207, 199] [180, 19, 244, 125, 19, 238, 47, 230, 200, 69, 178, 238, 20, 26, 248, 29, 232, 88, 223, 78, 197, 73, 165, 139, 121, 112, 187, 150, 100, 91, 200, 210] = [162, 11, 249, 167, 204, 45, 200, 160, 143, 95, 65, 90, 113, 177, 159, 106, 196, 39, 186, 181, 77, 36, 238, 200, 104, 181, 211, 16, 52, 73, 149, 58] := by decide +kernel
theorem hn23 : tnd [252, 240, 166, 199, 0, 221, 19, 226, 116, 182, 251, 168, 222, 234, 141, 217, 178, 110, 78, 237, 222, 52, 149, 113, 124, 172, 132, 8, 201, 197, 23, 127] [88, 60, 125, 251, 123, 48, 85, 217, 148, 101, 84, 64, 50, 165, 113, 225, 10, 19, 75, 27, 111, 118, 148, 34, 187, 183, 31, 215, 250, 22, 122, 93] = [82, 197, 107, 71, 62, 82, 70, 147, 62, 120, 82, 152, 156, 217, 254, 186, 59, 56, 240, 120, 116, 43, 147, 175, 255, 30, 101, 237, 70, 121, 120, 37] := by decide +kernel
theorem hna : tnd [162, 11, 249, 167, 204, 45, 200, 160, 143, 95, 65, 90, 113, 177, 159, 106, 196, 39, 186, 181, 77, 36, 238, 200, 104, 181, 211, 16, 52, 73, 149, 58] [82, 197, 107, 71, 62, 82, 70, 147, 62, 120, 82, 152, 156, 217, 254, 186, 59, 56, 240, 120, 116, 43, 147, 175, 255, 30, 101, 237, 70, 121, 120, 37] = [155, 205, 81, 36, 10, 244, 0, 81, 104, 240, 51, 18, 27, 168, 91, 229, 166, 237, 79, 14, 106, 95, 172, 38, 32, 102, 114, 155, 143, 191, 222, 203] := by decide +kernel
theorem hn45 : tnd [79, 53, 33, 45, 18, 249, 173, 32, 54, 73, 44, 149, 241, 254, 121, 186, 244, 236, 123, 217, 190, 243, 223, 250, 117, 121, 242, 41, 63, 245, 70, 164] [159, 26, 250, 77, 193, 36, 203, 167, 49, 52, 232, 47, 245, 15, 23, 200, 247, 22, 66, 87, 199, 159, 237, 154, 19, 245, 148, 58, 106, 203, 142, 61] = [75, 140, 18, 158, 209, 76, 206, 44, 8, 207, 198, 118, 109, 183, 248, 205, 177, 51, 181, 246, 152, 184, 222, 61, 88, 144, 234, 127, 247, 240, 168, 209] := by decide +kernel
theorem hnc : tnd [75, 140, 18, 158, 209, 76, 206, 44, 8, 207, 198, 118, 109, 183, 248, 205, 177, 51, 181, 246, 152, 184, 222, 61, 88, 144, 234, 127, 247, 240, 168, 209] [64, 216, 129, 39, 212, 211, 26, 56, 145, 244, 21, 152, 238, 237, 65, 23, 78, 91, 200, 155, 30, 185, 187, 214, 106, 140, 191, 192, 153, 86, 163, 253] = [137, 201, 41, 131, 78, 209, 69, 155, 7, 246, 91, 94, 26, 33, 67, 168, 207, 93, 142, 253, 243, 15, 73, 255, 255, 163, 40, 187, 29, 145, 51, 187] := by decide +kernel
theorem hnb : tnd [155, 205, 81, 36, 10, 244, 0, 81, 104, 240, 51, 18, 27, 168, 91, 229, 166, 237, 79, 14, 106, 95, 172, 38, 32, 102, 114, 155, 143, 191, 222, 203] [137, 201, 41, 131, 78, 209, 69, 155, 7, 246, 91, 94, 26, 33, 67, 168, 207, 93, 142, 253, 243, 15, 73, 255, 255, 163, 40, 187, 29, 145, 51, 187] = [53, 96, 25, 24, 3, 2, 132, 68, 178, 50, 1, 138, 192, 71, 253, 181, 97, 192, 156, 35, 167, 166, 135, 108, 133, 224, 139, 94, 77, 72, 233, 243] := by decide +kernel
theorem hnt : tnd [53, 96, 25, 24, 3, 2, 132, 68, 178, 50, 1, 138, 192, 71, 253, 181, 97, 192, 156, 35, 167, 166, 135, 108, 133, 224, 139, 94, 77, 72, 233, 243] [137, 201, 41, 131, 78, 209, 69, 155, 7, 246, 91, 94, 26, 33, 67, 168, 207, 93, 142, 253, 243, 15, 73, 255, 255, 163, 40, 187, 29, 145, 51, 187] = [163, 115, 114, 220, 137, 214, 139, 152, 91, 253, 19, 101, 253, 21, 99, 75, 253, 249, 65, 93, 226, 116, 14, 10, 241, 231, 213, 101, 72, 7, 41, 245] := by decide +kernel
theorem arg5' {ρ : Operand → Value} {x y z u v : Operand} {c d e f g : Value} (h : ρ x = c) (h2 : ρ y = d) (h3 : ρ z = e) (h4 : ρ u = f) (h5 : ρ v = g) : (#[x, y, z, u, v] : Array Operand).map ρ = #[c, d, e, f, g] := by simp [h, h2, h3, h4, h5]
set_option maxRecDepth 100000 in
set_option maxHeartbeats 4000000 in
theorem ldig7_any (A : Option Addr) (n c : Nat) (f : Nat → Piece) (w : World) (hr : RowsAt w A n f) (hc : n ≤ c) (hm : c ≤ maxLen) :
    Calls Tryd.prog 40 #[.slice A n c] w (DigsPost 40 w) := by
  rw [maxLen_eq] at hm
  have HR := Lib.hid hr
  clear hr
  go_enter Tryd.func40, Tryd.ntmps40
  go_wp2
  go_loopw [3, 4] (fun v i wr => ∃ (k : Nat) (A2 : Option Addr) (n2 c2 : Nat) (l2 : List (List UInt8)), k ≤ n ∧ k ≤ 40 ∧ i = .int .i64 k ∧ v = .slice A2 n2 c2 ∧ n2 ≤ k ∧ Digs wr w.heap.size A2 n2 c2 l2 ∧ Below w.heap.size w wr) (fun _ i _ => n - (intOf i).toNat)
  case atStart => exact ⟨0, none, 0, 0, [], by omega, by omega, rfl, rfl, by omega, ⟨OwnS.nil _ _, by simp⟩, Below.refl _ _⟩
  case round =>
    obtain ⟨k, A2, n2, c2, l2, hk, hk2, rfl, rfl, hnk, hown, hbel⟩ := hrel
    by_cases hlt : k < n
    · by_cases hlt2 : k < 40
      · obtain ⟨b, off, rfl, hb, hrows⟩ := HR.out (by omega)
        obtain ⟨hcell, hpc⟩ := hrows k hlt
        obtain ⟨x, hx⟩ : ∃ x, f k = x := ⟨_, rfl⟩
        rw [hx] at hcell hpc
        have HP := Lib.hid hpc
        have hp1 := hpc.cap
        have hp2 := hpc.max
        rw [maxLen_eq] at hp2
        have x0 := (hbel.cell (p := ⟨b, off + k, none⟩) hb).trans hcell
        clear hrows hcell hpc hx
        by_cases hbig : x.n ≤ 1000
        · go_wp2_with fail
          refine (rleaf_any x.a x.n x.c x.l wr ((HP.out.rd.below' hbel (Nat.le_refl _)).more hbel.size) HP.out.len HP.out.cap HP.out.max (by omega)).mono ?_
          rintro e w3 ⟨rfl, hb3⟩
          have hown3 := hown.own.keep hb3
          have hbel3 := bt hbel hb3
          go_wp2_with (at_builtin; refine wl_appS1 rfl (.tmp 21) (.tmp 27) rfl rfl hown3 rfl (seal_ 0 x.l) (by omega) hbel3.size ?_; intro A4 n4 c4 w4 ho4 hb4)
          go_roundw
          case rel => exact ⟨k + 1, A4, n4, c4, _, by omega, by omega, by go_num, rfl, by rw [← ho4.len, List.length_append, hown.own.len, List.length_singleton]; omega, ⟨ho4, fun s hs => by rcases List.mem_append.1 hs with h | h; exact hown.all s h; rw [List.mem_singleton.1 h]; exact seal_len _ _⟩, hbel3.trans hb4⟩
          case measure => simp [intOf]; omega
        · go_wp2
          go_roundw
          case rel => exact ⟨k + 1, A2, n2, c2, l2, by omega, by omega, by go_num, rfl, by omega, hown, hbel⟩
          case measure => simp [intOf]; omega
      · go_wp2
        go_ret
        exact ⟨A2, n2, c2, l2, rfl, hown.own, hown.all, by omega, hbel⟩
    · go_wp2
      go_ret
      exact ⟨A2, n2, c2, l2, rfl, hown.own, hown.all, by omega, hbel⟩
/-- n rows of one byte each, the bytes from 0 on, and the row of them. -/
def addBytes (w : World) : Nat → World
  | 0 => w
  | k + 1 => (addBytes w k).alloc (.cells #[.int .u8 (k : Int)] 5)
theorem addBytes_size (w : World) : ∀ k, (addBytes w k).heap.size = w.heap.size + k
  | 0 => rfl
  | k + 1 => by rw [addBytes]; unfold World.alloc; simp [addBytes_size w k]; omega
theorem addBytes_below (w : World) : ∀ k, Below w.heap.size w (addBytes w k)
  | 0 => Below.refl _ _
  | k + 1 => by rw [addBytes]; exact (addBytes_below w k).alloc (addBytes_below w k).size _
theorem addBytes_rd (w : World) : ∀ k i, i < k → k ≤ 200 → Rd (addBytes w k) (w.heap.size + i + 1) (some ⟨w.heap.size + i, 0, none⟩) [bv (UInt8.ofNat i)]
  | 0, i, h, _ => by omega
  | k + 1, i, h, hk => by
    rw [addBytes]
    by_cases e : i = k
    · subst e
      have := rd_new (addBytes w i) [.int .u8 (i : Int)] 5 (0, 0)
      rw [addBytes_size] at this
      have e2 : bv (UInt8.ofNat i) = .int .u8 (i : Int) := by
        unfold bv
        rw [UInt8.toNat_ofNat']
        congr 1
        omega
      rw [e2]
      exact this
    · exact (addBytes_rd w k i (by omega) (by omega)).alloc (by rw [addBytes_size]; omega) _
def pieceAtN (g : Nat) (i : Nat) : Piece := ⟨some ⟨g + i, 0, none⟩, 1, 1, [UInt8.ofNat i]⟩
theorem rows_bytes (w : World) (k : Nat) (hk : k ≤ 200) (cs : Array Value) (hcs : ∀ i, i < k → cs[i]? = some (.slice (some ⟨w.heap.size + i, 0, none⟩) 1 1)) :
    RowsAt ((addBytes w k).alloc (.cells cs 50)) (some ⟨w.heap.size + k, 0, none⟩) k (pieceAtN w.heap.size) := fun _ => by
  have hrow := row_new (addBytes w k) cs 50
  rw [addBytes_size] at hrow
  refine ⟨w.heap.size + k, 0, rfl, by unfold World.alloc; simp [addBytes_size], fun i hi => ?_⟩
  have h2 := (addBytes_rd w k i hi hk).alloc (o := .cells cs 50) (by rw [addBytes_size]; omega)
  refine ⟨?_, ⟨h2.more (by unfold World.alloc; simp [addBytes_size]; omega), rfl, Nat.le_refl _, (show 1 ≤ maxLen by decide)⟩⟩
  rw [Nat.zero_add]
  exact hrow.cellQ i _ (hcs i hi)
theorem sp7 : Tree.sp 7 = 4 := Tree.sp_of (t := 2) (by decide) (by decide)
theorem sp4 : Tree.sp 4 = 2 := Tree.sp_of (t := 1) (by decide) (by decide)
theorem sp3 : Tree.sp 3 = 2 := Tree.sp_of (t := 1) (by decide) (by decide)
theorem sp2 : Tree.sp 2 = 1 := Tree.sp_of (t := 0) (by decide) (by decide)
theorem troot_three (a b c : List UInt8) : troot [a, b, c] = tnd (tnd a b) c := by
  show Tree.root tnd tnil [a, b, c] = _
  rw [Tree.root_two _ _ (by simp), show [a, b, c].length = 3 from rfl, sp3]
  show tnd (troot [a, b]) (Tree.root tnd tnil [c]) = _
  rw [Tree.root_one, troot_two]
theorem troot_four (a b c d : List UInt8) : troot [a, b, c, d] = tnd (tnd a b) (tnd c d) := by
  show Tree.root tnd tnil [a, b, c, d] = _
  rw [Tree.root_two _ _ (by simp), show [a, b, c, d].length = 4 from rfl, sp4]
  show tnd (troot [a, b]) (troot [c, d]) = _
  rw [troot_two, troot_two]
theorem troot_seven (a b c d e f g : List UInt8) : troot [a, b, c, d, e, f, g] = tnd (troot [a, b, c, d]) (troot [e, f, g]) := by
  show Tree.root tnd tnil [a, b, c, d, e, f, g] = _
  rw [Tree.root_two _ _ (by simp), show [a, b, c, d, e, f, g].length = 7 from rfl, sp7]
  rfl
theorem part_three (a b c d e f g : List UInt8) : tprove [a, b, c, d, e, f, g] 3 = [c, d, tnd a b, troot [e, f, g]] := by
  rw [tprove_pos _ (by decide)]
  show Cons.part tnd tnil [a, b, c, d, e, f, g] 3 true = _
  rw [Cons.part_left _ _ (by simp) (by simp) (by rw [show [a, b, c, d, e, f, g].length = 7 from rfl, sp7]; omega), show [a, b, c, d, e, f, g].length = 7 from rfl, sp7]
  show Cons.part tnd tnil [a, b, c, d] 3 true ++ [troot [e, f, g]] = _
  rw [Cons.part_right _ _ (by simp) (by simp) (by rw [show [a, b, c, d].length = 4 from rfl, sp4]; omega), show [a, b, c, d].length = 4 from rfl, sp4]
  show (Cons.part tnd tnil [c, d] 1 false ++ [troot [a, b]]) ++ _ = _
  rw [Cons.part_left _ _ (by simp) (by simp) (by rw [show [c, d].length = 2 from rfl, sp2]; omega), show [c, d].length = 2 from rfl, sp2]
  show ((Cons.part tnd tnil [c] [c].length false ++ [Tree.root tnd tnil [d]]) ++ _) ++ _ = _
  rw [Cons.part_end, Tree.root_one, Tree.root_one, troot_two]
  rfl
theorem part_four (a b c d e f g : List UInt8) : tprove [a, b, c, d, e, f, g] 4 = [troot [e, f, g]] := by
  rw [tprove_pos _ (by decide)]
  show Cons.part tnd tnil [a, b, c, d, e, f, g] 4 true = _
  rw [Cons.part_left _ _ (by simp) (by simp) (by rw [show [a, b, c, d, e, f, g].length = 7 from rfl, sp7]; omega), show [a, b, c, d, e, f, g].length = 7 from rfl, sp7]
  show Cons.part tnd tnil [a, b, c, d] [a, b, c, d].length true ++ [troot [e, f, g]] = _
  rw [Cons.part_end]
  rfl
theorem tcheck_four (x y d : List UInt8) : tcheck 4 7 x y [d] = decide (tnd x d = y) := by
  unfold tcheck
  rw [if_neg (by decide)]
  have h := Cons.roots_left tnd [] (m := 4) (n := 7) (by omega) (by omega) (by rw [sp7]; omega) true x [] d
  rw [sp7, Cons.roots_whole] at h
  rw [show ([d] : List (List UInt8)) = [] ++ [d] from rfl, h]
  simp
set_option maxRecDepth 100000 in
set_option maxHeartbeats 16000000 in
theorem knows7_any (w : World) (ht : Tabs w) : Calls Tryd.prog 34 #[] w (Yes w) := by
  have hsw : tnd (troot [seal_ 0 [0], seal_ 0 [1], seal_ 0 [2], seal_ 0 [3], seal_ 0 [4], seal_ 0 [5], seal_ 0 [6]]) (troot [seal_ 0 [4], seal_ 0 [5], seal_ 0 [6]]) ≠ troot [seal_ 0 [0], seal_ 0 [1], seal_ 0 [2], seal_ 0 [3]] := by
    rw [troot_seven, troot_four, troot_three, hv0, hv1, hv2, hv3, hv4, hv5, hv6, hn01, hn23, hna, hn45, hnc, hnb, hnt]
    decide
  have hlf : tleaves (pieceAtN w.heap.size) 7 = [seal_ 0 [0], seal_ 0 [1], seal_ 0 [2], seal_ 0 [3], seal_ 0 [4], seal_ 0 [5], seal_ 0 [6]] := rfl
  obtain ⟨l0, hl0⟩ : ∃ l, seal_ 0 [0] = l := ⟨_, rfl⟩
  have n0 : l0.length = 32 := by rw [← hl0]; exact seal_len _ _
  rw [hl0] at hsw hlf
  clear hl0
  obtain ⟨l1, hl1⟩ : ∃ l, seal_ 0 [1] = l := ⟨_, rfl⟩
  have n1 : l1.length = 32 := by rw [← hl1]; exact seal_len _ _
  rw [hl1] at hsw hlf
  clear hl1
  obtain ⟨l2, hl2⟩ : ∃ l, seal_ 0 [2] = l := ⟨_, rfl⟩
  have n2 : l2.length = 32 := by rw [← hl2]; exact seal_len _ _
  rw [hl2] at hsw hlf
  clear hl2
  obtain ⟨l3, hl3⟩ : ∃ l, seal_ 0 [3] = l := ⟨_, rfl⟩
  have n3 : l3.length = 32 := by rw [← hl3]; exact seal_len _ _
  rw [hl3] at hsw hlf
  clear hl3
  obtain ⟨l4, hl4⟩ : ∃ l, seal_ 0 [4] = l := ⟨_, rfl⟩
  have n4 : l4.length = 32 := by rw [← hl4]; exact seal_len _ _
  rw [hl4] at hsw hlf
  clear hl4
  obtain ⟨l5, hl5⟩ : ∃ l, seal_ 0 [5] = l := ⟨_, rfl⟩
  have n5 : l5.length = 32 := by rw [← hl5]; exact seal_len _ _
  rw [hl5] at hsw hlf
  clear hl5
  obtain ⟨l6, hl6⟩ : ∃ l, seal_ 0 [6] = l := ⟨_, rfl⟩
  have n6 : l6.length = 32 := by rw [← hl6]; exact seal_len _ _
  rw [hl6] at hsw hlf
  clear hl6
  have hall : ∀ s ∈ [l0, l1, l2, l3, l4, l5, l6], s.length = 32 := fun s hs => by
    simp only [List.mem_cons, List.not_mem_nil, or_false] at hs
    rcases hs with rfl | rfl | rfl | rfl | rfl | rfl | rfl <;> assumption
  have hall4 : ∀ s ∈ [l0, l1, l2, l3], s.length = 32 := fun s hs => hall s (by simp only [List.mem_cons, List.not_mem_nil, or_false] at hs ⊢; rcases hs with h | h | h | h <;> simp [h])
  have hall3 : ∀ s ∈ [l4, l5, l6], s.length = 32 := fun s hs => hall s (by simp only [List.mem_cons, List.not_mem_nil, or_false] at hs ⊢; rcases hs with h | h | h <;> simp [h])
  have hp3 := part_three l0 l1 l2 l3 l4 l5 l6
  have hp4 := part_four l0 l1 l2 l3 l4 l5 l6
  have h7 := troot_seven l0 l1 l2 l3 l4 l5 l6
  have la : (troot [l0, l1, l2, l3]).length = 32 := troot_len hall4
  have ld : (troot [l4, l5, l6]).length = 32 := troot_len hall3
  have lb : (troot [l0, l1, l2, l3, l4, l5, l6]).length = 32 := troot_len hall
  obtain ⟨a, ha⟩ : ∃ a, troot [l0, l1, l2, l3] = a := ⟨_, rfl⟩
  obtain ⟨d, hd⟩ : ∃ a, troot [l4, l5, l6] = a := ⟨_, rfl⟩
  obtain ⟨b, hb⟩ : ∃ a, troot [l0, l1, l2, l3, l4, l5, l6] = a := ⟨_, rfl⟩
  rw [ha, hd, hb] at h7
  rw [hb, hd, ha] at hsw
  rw [hd] at hp3 hp4 ld
  rw [ha] at la
  rw [hb] at lb
  have t1 : tcheck 4 7 a b [d] = true := by rw [tcheck_four]; exact decide_eq_true h7.symm
  have t2 : tcheck 4 7 b a [d] = false := by rw [tcheck_four]; exact decide_eq_false hsw
  have cl := leaves_any (some ⟨w.heap.size + 7, 0, none⟩) 7 7 (pieceAtN w.heap.size) _ (rows_bytes w 7 (by omega) #[.slice (some ⟨w.heap.size, 0, none⟩) 1 1, .slice (some ⟨w.heap.size + 1, 0, none⟩) 1 1, .slice (some ⟨w.heap.size + 2, 0, none⟩) 1 1, .slice (some ⟨w.heap.size + 3, 0, none⟩) 1 1, .slice (some ⟨w.heap.size + 4, 0, none⟩) 1 1, .slice (some ⟨w.heap.size + 5, 0, none⟩) 1 1, .slice (some ⟨w.heap.size + 6, 0, none⟩) 1 1] (fun i hi => by rcases (show i = 0 ∨ i = 1 ∨ i = 2 ∨ i = 3 ∨ i = 4 ∨ i = 5 ∨ i = 6 by omega) with rfl | rfl | rfl | rfl | rfl | rfl | rfl <;> rfl)) (Nat.le_refl _) (by decide) (by omega) (fun i hi => by unfold pieceAtN; simp) (ht.below ((addBytes_below w 7).alloc (addBytes_below w 7).size _))
  rw [hlf] at cl
  have CL := Lib.hid cl
  have HB0 := Lib.hid ((addBytes_below w 7).alloc (addBytes_below w 7).size (.cells #[.slice (some ⟨w.heap.size, 0, none⟩) 1 1, .slice (some ⟨w.heap.size + 1, 0, none⟩) 1 1, .slice (some ⟨w.heap.size + 2, 0, none⟩) 1 1, .slice (some ⟨w.heap.size + 3, 0, none⟩) 1 1, .slice (some ⟨w.heap.size + 4, 0, none⟩) 1 1, .slice (some ⟨w.heap.size + 5, 0, none⟩) 1 1, .slice (some ⟨w.heap.size + 6, 0, none⟩) 1 1] 50))
  have HT := Lib.hid ht
  have c3 := fun (W : World) (A : Option Addr) (c : Nat) (h : Ss W A 7 c [l0, l1, l2, l3, l4, l5, l6]) (ht : Tabs W) => cprove_any A 7 c _ 3 W h hall (by omega) (by omega) ht
  rw [hp3] at c3
  have c4 := fun (W : World) (A : Option Addr) (c : Nat) (h : Ss W A 7 c [l0, l1, l2, l3, l4, l5, l6]) (ht : Tabs W) => cprove_any A 7 c _ 4 W h hall (by omega) (by omega) ht
  rw [hp4] at c4
  unfold PathPost at c3 c4
  have c5 := fun (W : World) (A : Option Addr) (c : Nat) (h : Ss W A 4 c [l0, l1, l2, l3]) (ht : Tabs W) => Root_any A 4 c _ W h hall4 (by omega) ht
  rw [ha] at c5
  have c6 := fun (W : World) (A : Option Addr) (c : Nat) (h : Ss W A 7 c [l0, l1, l2, l3, l4, l5, l6]) (ht : Tabs W) => Root_any A 7 c _ W h hall (by omega) ht
  rw [hb] at c6
  have c7 := fun (W : World) (A : Option Addr) (c : Nat) (h : Ss W A 3 c [l4, l5, l6]) (ht : Tabs W) => Root_any A 3 c _ W h hall3 (by omega) ht
  rw [hd] at c7
  have hd32 : ∀ s ∈ [d], s.length = 32 := fun s hs => by rw [List.mem_singleton.1 hs]; exact ld
  have c8 := fun (W : World) (A : Option Addr) (c : Nat) (h : Ss W A 1 c [d]) (ht : Tabs W) => ccheck_all 4 7 a b A 1 c [d] W h hd32 (by omega) (by omega) (by omega) la lb ht true t1 0 rfl
  have c9 := fun (W : World) (A : Option Addr) (c : Nat) (h : Ss W A 1 c [d]) (ht : Tabs W) => ccheck_all 4 7 b a A 1 c [d] W h hd32 (by omega) (by omega) (by omega) lb la ht false t2 6 rfl
  unfold RetI at c8 c9
  have C3 := Lib.hid c3
  have C4 := Lib.hid c4
  have C5 := Lib.hid c5
  have C6 := Lib.hid c6
  have C7 := Lib.hid c7
  have C8 := Lib.hid c8
  have C9 := Lib.hid c9
  clear cl c3 c4 c5 c6 c7 c8 c9 hsw hlf hall hall4 hall3 hp3 hp4 h7 la ld lb ha hd hb t1 t2 hd32 n0 n1 n2 n3 n4 n5 n6 ht
  go_enter Tryd.func34, Tryd.ntmps34
  go_wp2_with fail
  refine CL.out.mono ?_
  rintro e w1 ⟨A1, n1, c, rfl, ho1, hb1⟩
  have HB1 := Lib.hid (HB0.out.trans (hb1.mono HB0.out.size))
  have hn1 := ho1.len
  simp only [List.length_cons, List.length_nil] at hn1
  obtain rfl : n1 = 7 := by omega
  obtain ⟨g, rfl, hg, hgw⟩ := ho1.form (by omega)
  have hcc := ho1.cap
  have hcm := ho1.max
  rw [maxLen_eq] at hcm
  have HL := Lib.hid (show ∀ W, Below w1.heap.size w1 W → OwnS W _ (some ⟨g, 0, none⟩) 7 c [l0, l1, l2, l3, l4, l5, l6] from fun W hW => ho1.keep hW)
  clear ho1 hb1 hn1
  go_wp2_with fail
  refine (C3.out w1 _ c (HL.out _ (Below.refl _ _)).ss (HT.out.below HB1.out)).mono ?_
  rintro e w2 ⟨A2, n2, c1, rfl, ho2, hb2⟩
  have HB2 := Lib.hid hb2
  have hn2 := ho2.len
  simp only [List.length_cons, List.length_nil] at hn2
  obtain rfl : n2 = 4 := by omega
  obtain ⟨g1, rfl, hg1, hgw1⟩ := ho2.form (by omega)
  have hc1 := ho2.cap
  have hm1 := ho2.max
  rw [maxLen_eq] at hm1
  have HP := Lib.hid (show ∀ W, Below w2.heap.size w2 W → OwnS W _ (some ⟨g1, 0, none⟩) 4 c1 [l2, l3, tnd l0 l1, d] from fun W hW => ho2.keep hW)
  clear ho2 hb2 hn2
  go_wp2_with fail
  refine (C4.out w2 _ c (HL.out _ HB2.out).ss (HT.out.below (bt HB1.out HB2.out))).mono ?_
  rintro e w3 ⟨A3, n3, c2, rfl, ho3, hb3⟩
  have HB3 := Lib.hid hb3
  have HB3' := Lib.hid (bt HB2.out hb3)
  have hn3 := ho3.len
  simp only [List.length_cons, List.length_nil] at hn3
  obtain rfl : n3 = 1 := by omega
  obtain ⟨g2, rfl, hg2, hgw2⟩ := ho3.form (by omega)
  have hc2 := ho3.cap
  have hm2 := ho3.max
  rw [maxLen_eq] at hm2
  have HQ := Lib.hid (show ∀ W, Below w3.heap.size w3 W → OwnS W _ (some ⟨g2, 0, none⟩) 1 c2 [d] from fun W hW => ho3.keep hW)
  clear ho3 hb3 hn3
  go_wp2_with (refine wl_cutS_hi rfl (.tmp 35) (.const (.int .i64 4)) rfl rfl (HL.out _ HB3'.out).ss 4 rfl (by omega) ?_; intro A4 hs4)
  refine (C5.out w3 A4 c hs4 (HT.out.below (bt HB1.out HB3'.out))).mono ?_
  rintro e w4 ⟨rfl, hb4⟩
  have HB4 := Lib.hid hb4
  have HB4' := Lib.hid (bt HB3'.out hb4)
  clear hb4 hs4
  go_wp2_with fail
  refine (C6.out w4 _ c (HL.out _ HB4'.out).ss (HT.out.below (bt HB1.out HB4'.out))).mono ?_
  rintro e w5 ⟨rfl, hb5⟩
  have HB5 := Lib.hid (bt HB4.out hb5)
  have HB5' := Lib.hid (bt HB4'.out hb5)
  clear hb5
  go_wp2_with (refine wl_cutS_lo rfl (.tmp 46) (.const (.int .i64 4)) rfl rfl (HL.out _ HB5'.out).ss 4 rfl (by omega) ?_; intro A6 hs6)
  refine (C7.out w5 A6 (c - 4) hs6 (HT.out.below (bt HB1.out HB5'.out))).mono ?_
  rintro e w6 ⟨rfl, hb6⟩
  have HB6 := Lib.hid (bt HB5.out hb6)
  have HB6' := Lib.hid (bt HB5'.out hb6)
  clear hb6 hs6
  have X2 := Lib.hid (show ∀ W, Below w6.heap.size w6 W → W.cell? ⟨g, 2, none⟩ = some (sv l2) from fun W hW => (HL.out W (bt HB6'.out hW)).cell rfl)
  have X3 := Lib.hid (show ∀ W, Below w6.heap.size w6 W → W.cell? ⟨g, 3, none⟩ = some (sv l3) from fun W hW => (HL.out W (bt HB6'.out hW)).cell rfl)
  have P0 := Lib.hid (show ∀ W, Below w6.heap.size w6 W → W.cell? ⟨g1, 0, none⟩ = some (sv l2) from fun W hW => (HP.out W (bt (bt HB3.out HB6.out) hW)).cell rfl)
  have P1 := Lib.hid (show ∀ W, Below w6.heap.size w6 W → W.cell? ⟨g1, 1, none⟩ = some (sv l3) from fun W hW => (HP.out W (bt (bt HB3.out HB6.out) hW)).cell rfl)
  have P3 := Lib.hid (show ∀ W, Below w6.heap.size w6 W → W.cell? ⟨g1, 3, none⟩ = some (sv d) from fun W hW => (HP.out W (bt (bt HB3.out HB6.out) hW)).cell rfl)
  have Q0 := Lib.hid (show ∀ W, Below w6.heap.size w6 W → W.cell? ⟨g2, 0, none⟩ = some (sv d) from fun W hW => (HQ.out W (bt HB6.out hW)).cell rfl)
  have QC1 := Lib.hid (show ∀ W, Below w6.heap.size w6 W → Calls Tryd.prog 37 #[.int .i64 4, .int .i64 7, sv a, sv b, .slice (some ⟨g2, 0, none⟩) 1 c2] W fun e w' => e = .returned (.int .i64 0) ∧ Below W.heap.size W w' from fun W hW => C8.out W _ c2 (HQ.out W (bt HB6.out hW)).ss (HT.out.below (bt HB1.out (bt HB6'.out hW))))
  have QC2 := Lib.hid (show ∀ W, Below w6.heap.size w6 W → Calls Tryd.prog 37 #[.int .i64 4, .int .i64 7, sv b, sv a, .slice (some ⟨g2, 0, none⟩) 1 c2] W fun e w' => e = .returned (.int .i64 6) ∧ Below W.heap.size W w' from fun W hW => C9.out W _ c2 (HQ.out W (bt HB6.out hW)).ss (HT.out.below (bt HB1.out (bt HB6'.out hW))))
  go_wp2_with fail
  refine Free.wp_free_l 63 (fun W => Below w6.heap.size w6 W) [Free.kc (.slice (some ⟨g1, 0, none⟩) 4 c1), Free.kc (.int .i64 4), Free.kc (.bool true), Free.kc (.bool true), Free.kc (.slice (some ⟨g1, 0, none⟩) 4 c1), Free.kc (.pointer (some ⟨g1, 0, none⟩)), Free.kc (sv l2), Free.kc (.slice (some ⟨g, 0, none⟩) 7 c), Free.kc (.pointer (some ⟨g, 2, none⟩)), Free.kc (sv l2), Free.kc (.bool true), Free.kc (.bool true), Free.kc (.bool true), Free.kc (.slice (some ⟨g1, 0, none⟩) 4 c1), Free.kc (.pointer (some ⟨g1, 1, none⟩)), Free.kc (sv l3), Free.kc (.slice (some ⟨g, 0, none⟩) 7 c), Free.kc (.pointer (some ⟨g, 3, none⟩)), Free.kc (sv l3), Free.kc (.bool true), Free.kc (.bool true), Free.kc (.bool true), Free.kc (.slice (some ⟨g1, 0, none⟩) 4 c1), Free.kc (.pointer (some ⟨g1, 3, none⟩)), Free.kc (sv d), Free.kc (sv d), Free.kc (.bool true), Free.kc (.bool true), Free.kc (.bool true), Free.kc (.int .i64 0), Free.kc (.bool true), Free.kc (.bool true), Free.kc (.bool true), Free.kc (.slice (some ⟨g2, 0, none⟩) 1 c2), Free.kc (.int .i64 1), Free.kc (.bool true), Free.kc (.bool true), Free.kc (.bool true), Free.kc (.slice (some ⟨g2, 0, none⟩) 1 c2), Free.kc (.pointer (some ⟨g2, 0, none⟩)), Free.kc (sv d), Free.kc (sv d), Free.kc (.bool true), Free.kc (.bool true), Free.kc (.bool true), Free.kc (.int .i64 0), Free.kc (.bool true), Free.kc (.bool true), Free.kc (.bool true), Free.kc (sv a), Free.kc (sv b), Free.kc (.slice (some ⟨g2, 0, none⟩) 1 c2), Free.kc (.int .i64 0), Free.kc (.bool true), Free.kc (.bool true), Free.kc (.bool true), Free.kc (sv b), Free.kc (sv a), Free.kc (.slice (some ⟨g2, 0, none⟩) 1 c2), Free.kc (.int .i64 6), Free.kc (.bool true), Free.kc (.bool true), Free.kc (.bool true)] (by kernel_rfl) (by kernel_rfl) (by decide) (Below.refl _ _).drew (fun w w' h g => bt h g) ?_ ?_
  · refine Free.forall_succ (Free.forall_succ (Free.forall_succ (Free.forall_succ (Free.forall_succ (Free.forall_succ (Free.forall_succ (Free.forall_succ (Free.forall_succ (Free.forall_succ (Free.forall_succ (Free.forall_succ (Free.forall_succ (Free.forall_succ (Free.forall_succ (Free.forall_succ (Free.forall_succ (Free.forall_succ (Free.forall_succ (Free.forall_succ (Free.forall_succ (Free.forall_succ (Free.forall_succ (Free.forall_succ (Free.forall_succ (Free.forall_succ (Free.forall_succ (Free.forall_succ (Free.forall_succ (Free.forall_succ (Free.forall_succ (Free.forall_succ (Free.forall_succ (Free.forall_succ (Free.forall_succ (Free.forall_succ (Free.forall_succ (Free.forall_succ (Free.forall_succ (Free.forall_succ (Free.forall_succ (Free.forall_succ (Free.forall_succ (Free.forall_succ (Free.forall_succ (Free.forall_succ (Free.forall_succ (Free.forall_succ (Free.forall_succ (Free.forall_succ (Free.forall_succ (Free.forall_succ (Free.forall_succ (Free.forall_succ (Free.forall_succ (Free.forall_succ (Free.forall_succ (Free.forall_succ (Free.forall_succ (Free.forall_succ (Free.forall_succ (Free.forall_succ (Free.forall_succ (Free.forall_zero) ?_) ?_) ?_) ?_) ?_) ?_) ?_) ?_) ?_) ?_) ?_) ?_) ?_) ?_) ?_) ?_) ?_) ?_) ?_) ?_) ?_) ?_) ?_) ?_) ?_) ?_) ?_) ?_) ?_) ?_) ?_) ?_) ?_) ?_) ?_) ?_) ?_) ?_) ?_) ?_) ?_) ?_) ?_) ?_) ?_) ?_) ?_) ?_) ?_) ?_) ?_) ?_) ?_) ?_) ?_) ?_) ?_) ?_) ?_) ?_) ?_) ?_) ?_
    · exact Free.ob_plain _ rfl rfl fun vals wq hC hd => (by exact Free.d_move rfl (by kernel_rfl) rfl)
    · exact Free.ob_plain _ rfl rfl fun vals wq hC hd => (by exact Free.d_len rfl Tryd.underlying22 (Eq.trans (b := vals 0) (by kernel_rfl) (hd 0 (by kernel_rfl))) rfl)
    · exact Free.ob_plain _ rfl rfl fun vals wq hC hd => (by exact Free.d_bin rfl (Eq.trans (b := vals 1) (by kernel_rfl) (hd 1 (by kernel_rfl))) (show _ = (.int .i64 4 : Value) from rfl) (by go_simp) (by first | (go_simp; done) | (go_simp; rw [IntWalk.u32_in _ (by omega)]) | (go_simp; rw [IntWalk.i64_in _ (by omega)]) | (go_simp; rw [IntWalk.u8_in _ (by omega)]) | (go_simp; rw [IntKind.wrap_u32]; exact nv_add _ _)) rfl)
    · exact Free.ob_plain _ rfl rfl fun vals wq hC hd => (by exact Free.d_move rfl (Eq.trans (b := vals 2) (by kernel_rfl) (hd 2 (by kernel_rfl))) rfl)
    · exact Free.ob_guard _ rfl 3 54 true rfl rfl fun vals wq hC hd => ⟨Eq.trans (b := vals 3) (by kernel_rfl) (hd 3 (by kernel_rfl)), (by exact Free.d_move rfl (by kernel_rfl) rfl)⟩
    · exact Free.ob_guard _ rfl 3 54 true rfl rfl fun vals wq hC hd => ⟨Eq.trans (b := vals 3) (by kernel_rfl) (hd 3 (by kernel_rfl)), (by exact Free.d_indexAddr rfl (Eq.trans (b := vals 4) (by kernel_rfl) (hd 4 (by kernel_rfl))) (show _ = (Value.int .i64 0) from rfl) (run_idx0 22 Tryd.underlying22 (by kernel_rfl) g1 4 c1 0 _ (by rfl) (by omega)) rfl)⟩
    · exact Free.ob_guard _ rfl 3 54 true rfl rfl fun vals wq hC hd => ⟨Eq.trans (b := vals 3) (by kernel_rfl) (hd 3 (by kernel_rfl)), (by exact Free.d_load rfl (Eq.trans (b := vals 5) (by kernel_rfl) (hd 5 (by kernel_rfl))) (by have hcc := P0.out wq hC; go_simp) rfl)⟩
    · exact Free.ob_guard _ rfl 3 54 true rfl rfl fun vals wq hC hd => ⟨Eq.trans (b := vals 3) (by kernel_rfl) (hd 3 (by kernel_rfl)), (by exact Free.d_move rfl (by kernel_rfl) rfl)⟩
    · exact Free.ob_guard _ rfl 3 54 true rfl rfl fun vals wq hC hd => ⟨Eq.trans (b := vals 3) (by kernel_rfl) (hd 3 (by kernel_rfl)), (by exact Free.d_indexAddr rfl (Eq.trans (b := vals 7) (by kernel_rfl) (hd 7 (by kernel_rfl))) (show _ = (Value.int .i64 2) from rfl) (run_idx0 22 Tryd.underlying22 (by kernel_rfl) g 7 c 2 _ (by rfl) (by omega)) rfl)⟩
    · exact Free.ob_guard _ rfl 3 54 true rfl rfl fun vals wq hC hd => ⟨Eq.trans (b := vals 3) (by kernel_rfl) (hd 3 (by kernel_rfl)), (by exact Free.d_load rfl (Eq.trans (b := vals 8) (by kernel_rfl) (hd 8 (by kernel_rfl))) (by have hcc := X2.out wq hC; go_simp) rfl)⟩
    · exact Free.ob_guard _ rfl 3 54 true rfl rfl fun vals wq hC hd => ⟨Eq.trans (b := vals 3) (by kernel_rfl) (hd 3 (by kernel_rfl)), (by exact Free.d_bin rfl (Eq.trans (b := vals 6) (by kernel_rfl) (hd 6 (by kernel_rfl))) (Eq.trans (b := vals 9) (by kernel_rfl) (hd 9 (by kernel_rfl))) (by go_simp) (by rw [run_eql_str]; simp) rfl)⟩
    · exact Free.ob_plain _ rfl rfl fun vals wq hC hd => (by exact Free.d_pick rfl (Eq.trans (b := vals 3) (by kernel_rfl) (hd 3 (by kernel_rfl))) (Eq.trans (b := vals 10) (by kernel_rfl) (hd 10 (by kernel_rfl))) rfl)
    · exact Free.ob_plain _ rfl rfl fun vals wq hC hd => (by exact Free.d_move rfl (Eq.trans (b := vals 11) (by kernel_rfl) (hd 11 (by kernel_rfl))) rfl)
    · exact Free.ob_guard _ rfl 12 63 true rfl rfl fun vals wq hC hd => ⟨Eq.trans (b := vals 12) (by kernel_rfl) (hd 12 (by kernel_rfl)), (by exact Free.d_move rfl (by kernel_rfl) rfl)⟩
    · exact Free.ob_guard _ rfl 12 63 true rfl rfl fun vals wq hC hd => ⟨Eq.trans (b := vals 12) (by kernel_rfl) (hd 12 (by kernel_rfl)), (by exact Free.d_indexAddr rfl (Eq.trans (b := vals 13) (by kernel_rfl) (hd 13 (by kernel_rfl))) (show _ = (Value.int .i64 1) from rfl) (run_idx0 22 Tryd.underlying22 (by kernel_rfl) g1 4 c1 1 _ (by rfl) (by omega)) rfl)⟩
    · exact Free.ob_guard _ rfl 12 63 true rfl rfl fun vals wq hC hd => ⟨Eq.trans (b := vals 12) (by kernel_rfl) (hd 12 (by kernel_rfl)), (by exact Free.d_load rfl (Eq.trans (b := vals 14) (by kernel_rfl) (hd 14 (by kernel_rfl))) (by have hcc := P1.out wq hC; go_simp) rfl)⟩
    · exact Free.ob_guard _ rfl 12 63 true rfl rfl fun vals wq hC hd => ⟨Eq.trans (b := vals 12) (by kernel_rfl) (hd 12 (by kernel_rfl)), (by exact Free.d_move rfl (by kernel_rfl) rfl)⟩
    · exact Free.ob_guard _ rfl 12 63 true rfl rfl fun vals wq hC hd => ⟨Eq.trans (b := vals 12) (by kernel_rfl) (hd 12 (by kernel_rfl)), (by exact Free.d_indexAddr rfl (Eq.trans (b := vals 16) (by kernel_rfl) (hd 16 (by kernel_rfl))) (show _ = (Value.int .i64 3) from rfl) (run_idx0 22 Tryd.underlying22 (by kernel_rfl) g 7 c 3 _ (by rfl) (by omega)) rfl)⟩
    · exact Free.ob_guard _ rfl 12 63 true rfl rfl fun vals wq hC hd => ⟨Eq.trans (b := vals 12) (by kernel_rfl) (hd 12 (by kernel_rfl)), (by exact Free.d_load rfl (Eq.trans (b := vals 17) (by kernel_rfl) (hd 17 (by kernel_rfl))) (by have hcc := X3.out wq hC; go_simp) rfl)⟩
    · exact Free.ob_guard _ rfl 12 63 true rfl rfl fun vals wq hC hd => ⟨Eq.trans (b := vals 12) (by kernel_rfl) (hd 12 (by kernel_rfl)), (by exact Free.d_bin rfl (Eq.trans (b := vals 15) (by kernel_rfl) (hd 15 (by kernel_rfl))) (Eq.trans (b := vals 18) (by kernel_rfl) (hd 18 (by kernel_rfl))) (by go_simp) (by rw [run_eql_str]; simp) rfl)⟩
    · exact Free.ob_plain _ rfl rfl fun vals wq hC hd => (by exact Free.d_pick rfl (Eq.trans (b := vals 12) (by kernel_rfl) (hd 12 (by kernel_rfl))) (Eq.trans (b := vals 19) (by kernel_rfl) (hd 19 (by kernel_rfl))) rfl)
    · exact Free.ob_plain _ rfl rfl fun vals wq hC hd => (by exact Free.d_move rfl (Eq.trans (b := vals 20) (by kernel_rfl) (hd 20 (by kernel_rfl))) rfl)
    · exact Free.ob_guard _ rfl 21 72 true rfl rfl fun vals wq hC hd => ⟨Eq.trans (b := vals 21) (by kernel_rfl) (hd 21 (by kernel_rfl)), (by exact Free.d_move rfl (by kernel_rfl) rfl)⟩
    · exact Free.ob_guard _ rfl 21 72 true rfl rfl fun vals wq hC hd => ⟨Eq.trans (b := vals 21) (by kernel_rfl) (hd 21 (by kernel_rfl)), (by exact Free.d_indexAddr rfl (Eq.trans (b := vals 22) (by kernel_rfl) (hd 22 (by kernel_rfl))) (show _ = (Value.int .i64 3) from rfl) (run_idx0 22 Tryd.underlying22 (by kernel_rfl) g1 4 c1 3 _ (by rfl) (by omega)) rfl)⟩
    · exact Free.ob_guard _ rfl 21 72 true rfl rfl fun vals wq hC hd => ⟨Eq.trans (b := vals 21) (by kernel_rfl) (hd 21 (by kernel_rfl)), (by exact Free.d_load rfl (Eq.trans (b := vals 23) (by kernel_rfl) (hd 23 (by kernel_rfl))) (by have hcc := P3.out wq hC; go_simp) rfl)⟩
    · exact Free.ob_guard _ rfl 21 72 true rfl rfl fun vals wq hC hd => ⟨Eq.trans (b := vals 21) (by kernel_rfl) (hd 21 (by kernel_rfl)), (by exact Free.d_move rfl (by kernel_rfl) rfl)⟩
    · exact Free.ob_guard _ rfl 21 72 true rfl rfl fun vals wq hC hd => ⟨Eq.trans (b := vals 21) (by kernel_rfl) (hd 21 (by kernel_rfl)), (by exact Free.d_bin rfl (Eq.trans (b := vals 24) (by kernel_rfl) (hd 24 (by kernel_rfl))) (Eq.trans (b := vals 25) (by kernel_rfl) (hd 25 (by kernel_rfl))) (by go_simp) (by rw [run_eql_str]; simp) rfl)⟩
    · exact Free.ob_plain _ rfl rfl fun vals wq hC hd => (by exact Free.d_pick rfl (Eq.trans (b := vals 21) (by kernel_rfl) (hd 21 (by kernel_rfl))) (Eq.trans (b := vals 26) (by kernel_rfl) (hd 26 (by kernel_rfl))) rfl)
    · exact Free.ob_plain _ rfl rfl fun vals wq hC hd => (by exact Free.d_move rfl (Eq.trans (b := vals 27) (by kernel_rfl) (hd 27 (by kernel_rfl))) rfl)
    · exact Free.ob_guard _ rfl 28 79 true rfl rfl fun vals wq hC hd => ⟨Eq.trans (b := vals 28) (by kernel_rfl) (hd 28 (by kernel_rfl)), (by exact Free.d_move rfl (by kernel_rfl) rfl)⟩
    · exact Free.ob_guard _ rfl 28 79 true rfl rfl fun vals wq hC hd => ⟨Eq.trans (b := vals 28) (by kernel_rfl) (hd 28 (by kernel_rfl)), (by exact Free.d_bin rfl (Eq.trans (b := vals 29) (by kernel_rfl) (hd 29 (by kernel_rfl))) (show _ = (.int .i64 0 : Value) from rfl) (by go_simp) (by first | (go_simp; done) | (go_simp; rw [IntWalk.u32_in _ (by omega)]) | (go_simp; rw [IntWalk.i64_in _ (by omega)]) | (go_simp; rw [IntWalk.u8_in _ (by omega)]) | (go_simp; rw [IntKind.wrap_u32]; exact nv_add _ _)) rfl)⟩
    · exact Free.ob_plain _ rfl rfl fun vals wq hC hd => (by exact Free.d_pick rfl (Eq.trans (b := vals 28) (by kernel_rfl) (hd 28 (by kernel_rfl))) (Eq.trans (b := vals 30) (by kernel_rfl) (hd 30 (by kernel_rfl))) rfl)
    · exact Free.ob_plain _ rfl rfl fun vals wq hC hd => (by exact Free.d_move rfl (Eq.trans (b := vals 31) (by kernel_rfl) (hd 31 (by kernel_rfl))) rfl)
    · exact Free.ob_guard _ rfl 32 83 true rfl rfl fun vals wq hC hd => ⟨Eq.trans (b := vals 32) (by kernel_rfl) (hd 32 (by kernel_rfl)), (by exact Free.d_move rfl (by kernel_rfl) rfl)⟩
    · exact Free.ob_guard _ rfl 32 83 true rfl rfl fun vals wq hC hd => ⟨Eq.trans (b := vals 32) (by kernel_rfl) (hd 32 (by kernel_rfl)), (by exact Free.d_len rfl Tryd.underlying22 (Eq.trans (b := vals 33) (by kernel_rfl) (hd 33 (by kernel_rfl))) rfl)⟩
    · exact Free.ob_guard _ rfl 32 83 true rfl rfl fun vals wq hC hd => ⟨Eq.trans (b := vals 32) (by kernel_rfl) (hd 32 (by kernel_rfl)), (by exact Free.d_bin rfl (Eq.trans (b := vals 34) (by kernel_rfl) (hd 34 (by kernel_rfl))) (show _ = (.int .i64 1 : Value) from rfl) (by go_simp) (by first | (go_simp; done) | (go_simp; rw [IntWalk.u32_in _ (by omega)]) | (go_simp; rw [IntWalk.i64_in _ (by omega)]) | (go_simp; rw [IntWalk.u8_in _ (by omega)]) | (go_simp; rw [IntKind.wrap_u32]; exact nv_add _ _)) rfl)⟩
    · exact Free.ob_plain _ rfl rfl fun vals wq hC hd => (by exact Free.d_pick rfl (Eq.trans (b := vals 32) (by kernel_rfl) (hd 32 (by kernel_rfl))) (Eq.trans (b := vals 35) (by kernel_rfl) (hd 35 (by kernel_rfl))) rfl)
    · exact Free.ob_plain _ rfl rfl fun vals wq hC hd => (by exact Free.d_move rfl (Eq.trans (b := vals 36) (by kernel_rfl) (hd 36 (by kernel_rfl))) rfl)
    · exact Free.ob_guard _ rfl 37 88 true rfl rfl fun vals wq hC hd => ⟨Eq.trans (b := vals 37) (by kernel_rfl) (hd 37 (by kernel_rfl)), (by exact Free.d_move rfl (by kernel_rfl) rfl)⟩
    · exact Free.ob_guard _ rfl 37 88 true rfl rfl fun vals wq hC hd => ⟨Eq.trans (b := vals 37) (by kernel_rfl) (hd 37 (by kernel_rfl)), (by exact Free.d_indexAddr rfl (Eq.trans (b := vals 38) (by kernel_rfl) (hd 38 (by kernel_rfl))) (show _ = (Value.int .i64 0) from rfl) (run_idx0 22 Tryd.underlying22 (by kernel_rfl) g2 1 c2 0 _ (by rfl) (by omega)) rfl)⟩
    · exact Free.ob_guard _ rfl 37 88 true rfl rfl fun vals wq hC hd => ⟨Eq.trans (b := vals 37) (by kernel_rfl) (hd 37 (by kernel_rfl)), (by exact Free.d_load rfl (Eq.trans (b := vals 39) (by kernel_rfl) (hd 39 (by kernel_rfl))) (by have hcc := Q0.out wq hC; go_simp) rfl)⟩
    · exact Free.ob_guard _ rfl 37 88 true rfl rfl fun vals wq hC hd => ⟨Eq.trans (b := vals 37) (by kernel_rfl) (hd 37 (by kernel_rfl)), (by exact Free.d_move rfl (by kernel_rfl) rfl)⟩
    · exact Free.ob_guard _ rfl 37 88 true rfl rfl fun vals wq hC hd => ⟨Eq.trans (b := vals 37) (by kernel_rfl) (hd 37 (by kernel_rfl)), (by exact Free.d_bin rfl (Eq.trans (b := vals 40) (by kernel_rfl) (hd 40 (by kernel_rfl))) (Eq.trans (b := vals 41) (by kernel_rfl) (hd 41 (by kernel_rfl))) (by go_simp) (by rw [run_eql_str]; simp) rfl)⟩
    · exact Free.ob_plain _ rfl rfl fun vals wq hC hd => (by exact Free.d_pick rfl (Eq.trans (b := vals 37) (by kernel_rfl) (hd 37 (by kernel_rfl))) (Eq.trans (b := vals 42) (by kernel_rfl) (hd 42 (by kernel_rfl))) rfl)
    · exact Free.ob_plain _ rfl rfl fun vals wq hC hd => (by exact Free.d_move rfl (Eq.trans (b := vals 43) (by kernel_rfl) (hd 43 (by kernel_rfl))) rfl)
    · exact Free.ob_guard _ rfl 44 95 true rfl rfl fun vals wq hC hd => ⟨Eq.trans (b := vals 44) (by kernel_rfl) (hd 44 (by kernel_rfl)), (by exact Free.d_move rfl (by kernel_rfl) rfl)⟩
    · exact Free.ob_guard _ rfl 44 95 true rfl rfl fun vals wq hC hd => ⟨Eq.trans (b := vals 44) (by kernel_rfl) (hd 44 (by kernel_rfl)), (by exact Free.d_bin rfl (Eq.trans (b := vals 45) (by kernel_rfl) (hd 45 (by kernel_rfl))) (show _ = (.int .i64 0 : Value) from rfl) (by go_simp) (by first | (go_simp; done) | (go_simp; rw [IntWalk.u32_in _ (by omega)]) | (go_simp; rw [IntWalk.i64_in _ (by omega)]) | (go_simp; rw [IntWalk.u8_in _ (by omega)]) | (go_simp; rw [IntKind.wrap_u32]; exact nv_add _ _)) rfl)⟩
    · exact Free.ob_plain _ rfl rfl fun vals wq hC hd => (by exact Free.d_pick rfl (Eq.trans (b := vals 44) (by kernel_rfl) (hd 44 (by kernel_rfl))) (Eq.trans (b := vals 46) (by kernel_rfl) (hd 46 (by kernel_rfl))) rfl)
    · exact Free.ob_plain _ rfl rfl fun vals wq hC hd => (by exact Free.d_move rfl (Eq.trans (b := vals 47) (by kernel_rfl) (hd 47 (by kernel_rfl))) rfl)
    · exact Free.ob_guard _ rfl 48 99 true rfl rfl fun vals wq hC hd => ⟨Eq.trans (b := vals 48) (by kernel_rfl) (hd 48 (by kernel_rfl)), (by exact Free.d_move rfl (by kernel_rfl) rfl)⟩
    · exact Free.ob_guard _ rfl 48 99 true rfl rfl fun vals wq hC hd => ⟨Eq.trans (b := vals 48) (by kernel_rfl) (hd 48 (by kernel_rfl)), (by exact Free.d_move rfl (by kernel_rfl) rfl)⟩
    · exact Free.ob_guard _ rfl 48 99 true rfl rfl fun vals wq hC hd => ⟨Eq.trans (b := vals 48) (by kernel_rfl) (hd 48 (by kernel_rfl)), (by exact Free.d_move rfl (by kernel_rfl) rfl)⟩
    · exact Free.ob_guard _ rfl 48 99 true rfl rfl fun vals wq hC hd => ⟨Eq.trans (b := vals 48) (by kernel_rfl) (hd 48 (by kernel_rfl)), (by exact Free.d_call Tryd.func37 (by kernel_rfl) (by kernel_rfl) rfl rfl (arg5' rfl rfl (Eq.trans (b := vals 49) (by kernel_rfl) (hd 49 (by kernel_rfl))) (Eq.trans (b := vals 50) (by kernel_rfl) (hd 50 (by kernel_rfl))) (Eq.trans (b := vals 51) (by kernel_rfl) (hd 51 (by kernel_rfl)))) ((QC1.out wq hC).mono fun e w2 h => ⟨_, h.1, rfl, h.2⟩))⟩
    · exact Free.ob_guard _ rfl 48 99 true rfl rfl fun vals wq hC hd => ⟨Eq.trans (b := vals 48) (by kernel_rfl) (hd 48 (by kernel_rfl)), (by exact Free.d_bin rfl (Eq.trans (b := vals 52) (by kernel_rfl) (hd 52 (by kernel_rfl))) (show _ = (.int .i64 0 : Value) from rfl) (by go_simp) (by first | (go_simp; done) | (go_simp; rw [IntWalk.u32_in _ (by omega)]) | (go_simp; rw [IntWalk.i64_in _ (by omega)]) | (go_simp; rw [IntWalk.u8_in _ (by omega)]) | (go_simp; rw [IntKind.wrap_u32]; exact nv_add _ _)) rfl)⟩
    · exact Free.ob_plain _ rfl rfl fun vals wq hC hd => (by exact Free.d_pick rfl (Eq.trans (b := vals 48) (by kernel_rfl) (hd 48 (by kernel_rfl))) (Eq.trans (b := vals 53) (by kernel_rfl) (hd 53 (by kernel_rfl))) rfl)
    · exact Free.ob_plain _ rfl rfl fun vals wq hC hd => (by exact Free.d_move rfl (Eq.trans (b := vals 54) (by kernel_rfl) (hd 54 (by kernel_rfl))) rfl)
    · exact Free.ob_guard _ rfl 55 106 true rfl rfl fun vals wq hC hd => ⟨Eq.trans (b := vals 55) (by kernel_rfl) (hd 55 (by kernel_rfl)), (by exact Free.d_move rfl (by kernel_rfl) rfl)⟩
    · exact Free.ob_guard _ rfl 55 106 true rfl rfl fun vals wq hC hd => ⟨Eq.trans (b := vals 55) (by kernel_rfl) (hd 55 (by kernel_rfl)), (by exact Free.d_move rfl (by kernel_rfl) rfl)⟩
    · exact Free.ob_guard _ rfl 55 106 true rfl rfl fun vals wq hC hd => ⟨Eq.trans (b := vals 55) (by kernel_rfl) (hd 55 (by kernel_rfl)), (by exact Free.d_move rfl (by kernel_rfl) rfl)⟩
    · exact Free.ob_guard _ rfl 55 106 true rfl rfl fun vals wq hC hd => ⟨Eq.trans (b := vals 55) (by kernel_rfl) (hd 55 (by kernel_rfl)), (by exact Free.d_call Tryd.func37 (by kernel_rfl) (by kernel_rfl) rfl rfl (arg5' rfl rfl (Eq.trans (b := vals 56) (by kernel_rfl) (hd 56 (by kernel_rfl))) (Eq.trans (b := vals 57) (by kernel_rfl) (hd 57 (by kernel_rfl))) (Eq.trans (b := vals 58) (by kernel_rfl) (hd 58 (by kernel_rfl)))) ((QC2.out wq hC).mono fun e w2 h => ⟨_, h.1, rfl, h.2⟩))⟩
    · exact Free.ob_guard _ rfl 55 106 true rfl rfl fun vals wq hC hd => ⟨Eq.trans (b := vals 55) (by kernel_rfl) (hd 55 (by kernel_rfl)), (by exact Free.d_bin rfl (Eq.trans (b := vals 59) (by kernel_rfl) (hd 59 (by kernel_rfl))) (show _ = (.int .i64 6 : Value) from rfl) (by go_simp) (by first | (go_simp; done) | (go_simp; rw [IntWalk.u32_in _ (by omega)]) | (go_simp; rw [IntWalk.i64_in _ (by omega)]) | (go_simp; rw [IntWalk.u8_in _ (by omega)]) | (go_simp; rw [IntKind.wrap_u32]; exact nv_add _ _)) rfl)⟩
    · exact Free.ob_plain _ rfl rfl fun vals wq hC hd => (by exact Free.d_pick rfl (Eq.trans (b := vals 55) (by kernel_rfl) (hd 55 (by kernel_rfl))) (Eq.trans (b := vals 60) (by kernel_rfl) (hd 60 (by kernel_rfl))) rfl)
    · exact Free.ob_plain _ rfl rfl fun vals wq hC hd => (by exact Free.d_assign rfl (Eq.trans (b := vals 61) (by kernel_rfl) (hd 61 (by kernel_rfl))) rfl)
  · intro vals wq hC hd
    have e0 : vals 0 = (.slice (some ⟨g1, 0, none⟩) 4 c1) := hd 0 (by decide)
    have e1 : vals 1 = (.int .i64 4) := hd 1 (by decide)
    have e2 : vals 2 = (.bool true) := hd 2 (by decide)
    have e3 : vals 3 = (.bool true) := hd 3 (by decide)
    have e4 : vals 4 = (.slice (some ⟨g1, 0, none⟩) 4 c1) := hd 4 (by decide)
    have e5 : vals 5 = (.pointer (some ⟨g1, 0, none⟩)) := hd 5 (by decide)
    have e6 : vals 6 = (sv l2) := hd 6 (by decide)
    have e7 : vals 7 = (.slice (some ⟨g, 0, none⟩) 7 c) := hd 7 (by decide)
    have e8 : vals 8 = (.pointer (some ⟨g, 2, none⟩)) := hd 8 (by decide)
    have e9 : vals 9 = (sv l2) := hd 9 (by decide)
    have e10 : vals 10 = (.bool true) := hd 10 (by decide)
    have e11 : vals 11 = (.bool true) := hd 11 (by decide)
    have e12 : vals 12 = (.bool true) := hd 12 (by decide)
    have e13 : vals 13 = (.slice (some ⟨g1, 0, none⟩) 4 c1) := hd 13 (by decide)
    have e14 : vals 14 = (.pointer (some ⟨g1, 1, none⟩)) := hd 14 (by decide)
    have e15 : vals 15 = (sv l3) := hd 15 (by decide)
    have e16 : vals 16 = (.slice (some ⟨g, 0, none⟩) 7 c) := hd 16 (by decide)
    have e17 : vals 17 = (.pointer (some ⟨g, 3, none⟩)) := hd 17 (by decide)
    have e18 : vals 18 = (sv l3) := hd 18 (by decide)
    have e19 : vals 19 = (.bool true) := hd 19 (by decide)
    have e20 : vals 20 = (.bool true) := hd 20 (by decide)
    have e21 : vals 21 = (.bool true) := hd 21 (by decide)
    have e22 : vals 22 = (.slice (some ⟨g1, 0, none⟩) 4 c1) := hd 22 (by decide)
    have e23 : vals 23 = (.pointer (some ⟨g1, 3, none⟩)) := hd 23 (by decide)
    have e24 : vals 24 = (sv d) := hd 24 (by decide)
    have e25 : vals 25 = (sv d) := hd 25 (by decide)
    have e26 : vals 26 = (.bool true) := hd 26 (by decide)
    have e27 : vals 27 = (.bool true) := hd 27 (by decide)
    have e28 : vals 28 = (.bool true) := hd 28 (by decide)
    have e29 : vals 29 = (.int .i64 0) := hd 29 (by decide)
    have e30 : vals 30 = (.bool true) := hd 30 (by decide)
    have e31 : vals 31 = (.bool true) := hd 31 (by decide)
    have e32 : vals 32 = (.bool true) := hd 32 (by decide)
    have e33 : vals 33 = (.slice (some ⟨g2, 0, none⟩) 1 c2) := hd 33 (by decide)
    have e34 : vals 34 = (.int .i64 1) := hd 34 (by decide)
    have e35 : vals 35 = (.bool true) := hd 35 (by decide)
    have e36 : vals 36 = (.bool true) := hd 36 (by decide)
    have e37 : vals 37 = (.bool true) := hd 37 (by decide)
    have e38 : vals 38 = (.slice (some ⟨g2, 0, none⟩) 1 c2) := hd 38 (by decide)
    have e39 : vals 39 = (.pointer (some ⟨g2, 0, none⟩)) := hd 39 (by decide)
    have e40 : vals 40 = (sv d) := hd 40 (by decide)
    have e41 : vals 41 = (sv d) := hd 41 (by decide)
    have e42 : vals 42 = (.bool true) := hd 42 (by decide)
    have e43 : vals 43 = (.bool true) := hd 43 (by decide)
    have e44 : vals 44 = (.bool true) := hd 44 (by decide)
    have e45 : vals 45 = (.int .i64 0) := hd 45 (by decide)
    have e46 : vals 46 = (.bool true) := hd 46 (by decide)
    have e47 : vals 47 = (.bool true) := hd 47 (by decide)
    have e48 : vals 48 = (.bool true) := hd 48 (by decide)
    have e49 : vals 49 = (sv a) := hd 49 (by decide)
    have e50 : vals 50 = (sv b) := hd 50 (by decide)
    have e51 : vals 51 = (.slice (some ⟨g2, 0, none⟩) 1 c2) := hd 51 (by decide)
    have e52 : vals 52 = (.int .i64 0) := hd 52 (by decide)
    have e53 : vals 53 = (.bool true) := hd 53 (by decide)
    have e54 : vals 54 = (.bool true) := hd 54 (by decide)
    have e55 : vals 55 = (.bool true) := hd 55 (by decide)
    have e56 : vals 56 = (sv b) := hd 56 (by decide)
    have e57 : vals 57 = (sv a) := hd 57 (by decide)
    have e58 : vals 58 = (.slice (some ⟨g2, 0, none⟩) 1 c2) := hd 58 (by decide)
    have e59 : vals 59 = (.int .i64 6) := hd 59 (by decide)
    have e60 : vals 60 = (.bool true) := hd 60 (by decide)
    have e61 : vals 61 = (.bool true) := hd 61 (by decide)
    have e62 : vals 62 = (.bool true) := hd 62 (by decide)
    simp only [Free.frameOf, List.range, List.range.loop, List.foldl, Free.dstOf, List.getElem?_toArray, List.getElem?_cons_zero, List.getElem?_cons_succ, Option.bind_some, Act.put, List.setIfInBounds_toArray, List.set_cons_zero, List.set_cons_succ, e0, e1, e2, e3, e4, e5, e6, e7, e8, e9, e10, e11, e12, e13, e14, e15, e16, e17, e18, e19, e20, e21, e22, e23, e24, e25, e26, e27, e28, e29, e30, e31, e32, e33, e34, e35, e36, e37, e38, e39, e40, e41, e42, e43, e44, e45, e46, e47, e48, e49, e50, e51, e52, e53, e54, e55, e56, e57, e58, e59, e60, e61, e62]
    refine wpList_nil ?_
    clear hd e0 e1 e2 e3 e4 e5 e6 e7 e8 e9 e10 e11 e12 e13 e14 e15 e16 e17 e18 e19 e20 e21 e22 e23 e24 e25 e26 e27 e28 e29 e30 e31 e32 e33 e34 e35 e36 e37 e38 e39 e40 e41 e42 e43 e44 e45 e46 e47 e48 e49 e50 e51 e52 e53 e54 e55 e56 e57 e58 e59 e60 e61 e62
    have HBF := Lib.hid (bt HB1.out (bt HB6'.out hC))
    clear hC
    go_wp2
    go_ret
    exact ⟨rfl, HBF.out⟩
end Go.Proofs.YtoiilhbjlfdfpaaDoor
