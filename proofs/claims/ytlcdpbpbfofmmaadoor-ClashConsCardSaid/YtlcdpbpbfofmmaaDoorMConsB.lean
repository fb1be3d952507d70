/- Roots, Fair, Check of the reference; Check of what may not be asked. No statement of the seat is proved here. -/
import Derived.Test.YtlcdpbpbfofmmaaDoorMConsA
namespace Go.Proofs.YtlcdpbpbfofmmaaDoor
set_option maxRecDepth 100000
set_option linter.unusedVariables false
open Go.RowKit

theorem roots_len (one : List UInt8) (h1 : one.length ≤ 100000) : ∀ (q m n : Nat) (wh : Bool) (p : List (List UInt8)), n ≤ q → (∀ s ∈ p, s.length = 32) → (Cons.roots tnd [] m n wh one p).1.length ≤ 100000 ∧ (Cons.roots tnd [] m n wh one p).2.1.length ≤ 100000 := by
  intro q
  induction q with
  | zero =>
    intro m n wh p hn hp
    by_cases he : m = n
    · subst he
      cases wh with
      | true => rw [Cons.roots_whole]; exact ⟨h1, h1⟩
      | false =>
        match p with
        | [] => rw [Cons.roots_bad _ _ _ _ _ (by simp)]; simp
        | [x] => rw [Cons.roots_one]; have := hp x (by simp); exact ⟨by simp [this], by simp [this]⟩
        | x :: y :: r => rw [Cons.roots_bad _ _ _ _ _ (by simp)]; simp
    · rcases List.eq_nil_or_concat p with rfl | ⟨r, d, rfl⟩
      · rw [Cons.roots_nil _ _ he]; simp
      · rw [Cons.roots, if_neg he, if_neg (by simp), dif_pos (by omega)]; simp
  | succ q ih =>
    intro m n wh p hn hp
    by_cases he : m = n
    · subst he
      cases wh with
      | true => rw [Cons.roots_whole]; exact ⟨h1, h1⟩
      | false =>
        match p with
        | [] => rw [Cons.roots_bad _ _ _ _ _ (by simp)]; simp
        | [x] => rw [Cons.roots_one]; have := hp x (by simp); exact ⟨by simp [this], by simp [this]⟩
        | x :: y :: r => rw [Cons.roots_bad _ _ _ _ _ (by simp)]; simp
    · rcases List.eq_nil_or_concat p with rfl | ⟨r, d, rfl⟩
      · rw [Cons.roots_nil _ _ he]; simp
      · by_cases h2 : n < 2
        · rw [Cons.roots, if_neg he, if_neg (by simp), dif_pos h2]; simp
        · rw [List.concat_eq_append] at hp ⊢
          by_cases hk : m ≤ Tree.sp n
          · have kl := Tree.sp_lt (n := n) (by omega)
            have := ih m (Tree.sp n) wh r (by omega) (fun s hs => hp s (List.mem_append.2 (.inl hs)))
            rw [Cons.roots_left _ _ (by omega) he hk]
            exact ⟨this.1, by rw [tnd_len]; omega⟩
          · rw [Cons.roots_right _ _ (by omega) he hk]
            exact ⟨by rw [tnd_len]; omega, by rw [tnd_len]; omega⟩
/-- What Roots tells. -/
def RootsPost (r : List UInt8 × List UInt8 × Bool) (w : World) (e : Ending) (w' : World) : Prop := e = .returned (.tuple #[sv r.1, sv r.2.1, .bool r.2.2]) ∧ Below w.heap.size w w'
set_option maxRecDepth 100000 in
set_option maxHeartbeats 16000000 in
theorem roots_any : ∀ (q m n : Nat) (wh : Bool) (one : List UInt8) (A : Option Addr) (k c : Nat) (p : List (List UInt8)) (w : World), n ≤ q → 1 ≤ m → m ≤ n → n ≤ 1099511627776 → one.length ≤ 100000 → Ss w A k c p → (∀ s ∈ p, s.length = 32) →
    Calls Tryd.prog 87 #[.int .i64 (m : Int), .int .i64 (n : Int), .bool wh, sv one, .slice A k c] w (RootsPost (Cons.roots tnd [] m n wh one p) w)
  | q, m, n, wh, one, A, k, c, p, w, hq, hm1, hmn, hn, h1, hs, h32 => by
    have hmx := hs.max
    have hcap := hs.cap
    rw [maxLen_eq] at hmx
    have HLN := Lib.hid hs.len
    by_cases he : m = n
    · subst he
      have b1 : ((m : Int) == (m : Int)) = true := by simp
      cases wh with
      | true =>
        rw [Cons.roots_whole, hs.len]
        clear h32 h1 hs
        by_cases hk0 : k = 0
        · subst hk0
          go_enter Tryd.func87, Tryd.ntmps87
          go_wp2
          go_ret3
          exact ⟨rfl, Below.refl _ _⟩
        · have b0 : ((k : Int) == 0) = false := beq_eq_false_iff_ne.2 (by omega)
          rw [decide_eq_false hk0]
          go_enter Tryd.func87, Tryd.ntmps87
          go_wp2
          go_ret3
          exact ⟨rfl, Below.refl _ _⟩
      | false =>
        by_cases hk1 : k = 1
        · subst hk1
          obtain ⟨b, off, rfl, hbb, hcell, x, hx⟩ := hs.at (k := 0) (by omega)
          have X0 := Lib.hid (show ∀ W, Below w.heap.size w W → W.cell? ⟨b, off, none⟩ = some (sv x) from fun W hW => (hW.cell (p := ⟨b, off, none⟩) hbb).trans (hcell 0 x hx))
          have HE := Lib.hid (show Cons.roots tnd [] m m false one p = (x, x, true) by
            have hl := HLN.out
            match p, hl, hx with
            | [y], _, hx =>
              simp at hx
              subst hx
              exact Cons.roots_one _ _ _ _ _)
          clear h32 h1 hs hcell hx
          go_enter Tryd.func87, Tryd.ntmps87
          go_wp2_with fail
          refine Free.wp_free_l 9 (fun W => Below w.heap.size w W) [Free.kc (.slice (some ⟨b, off, none⟩) 1 c), Free.kc (.pointer (some ⟨b, off, none⟩)), Free.kc (sv x), Free.kc (.slice (some ⟨b, off, none⟩) 1 c), Free.kc (.pointer (some ⟨b, off, none⟩)), Free.kc (sv x), Free.kc (sv x), Free.kc (sv x), Free.kc (Value.bool true)] (by kernel_rfl) (by kernel_rfl) (by decide) (Below.refl _ _).drew (fun w w' h g => bt h g) ?_ ?_
          · refine Free.forall_succ (Free.forall_succ (Free.forall_succ (Free.forall_succ (Free.forall_succ (Free.forall_succ (Free.forall_succ (Free.forall_succ (Free.forall_succ (Free.forall_zero) ?_) ?_) ?_) ?_) ?_) ?_) ?_) ?_) ?_
            · exact Free.ob_plain _ rfl rfl fun vals wq hC hd => (by exact Free.d_move rfl (by kernel_rfl) rfl)
            · exact Free.ob_plain _ rfl rfl fun vals wq hC hd => (by exact Free.d_indexAddr rfl (Eq.trans (b := vals 0) (by kernel_rfl) (hd 0 (by kernel_rfl))) (show _ = (Value.int .i64 0) from rfl) (run_idx 24 Tryd.underlying24 (by kernel_rfl) b off 1 c 0 _ (by rfl) (by omega)) rfl)
            · exact Free.ob_plain _ rfl rfl fun vals wq hC hd => (by exact Free.d_load rfl (Eq.trans (b := vals 1) (by kernel_rfl) (hd 1 (by kernel_rfl))) (by have hcc := X0.out wq hC; go_simp) rfl)
            · exact Free.ob_plain _ rfl rfl fun vals wq hC hd => (by exact Free.d_move rfl (by kernel_rfl) rfl)
            · exact Free.ob_plain _ rfl rfl fun vals wq hC hd => (by exact Free.d_indexAddr rfl (Eq.trans (b := vals 3) (by kernel_rfl) (hd 3 (by kernel_rfl))) (show _ = (Value.int .i64 0) from rfl) (run_idx 24 Tryd.underlying24 (by kernel_rfl) b off 1 c 0 _ (by rfl) (by omega)) rfl)
            · exact Free.ob_plain _ rfl rfl fun vals wq hC hd => (by exact Free.d_load rfl (Eq.trans (b := vals 4) (by kernel_rfl) (hd 4 (by kernel_rfl))) (by have hcc := X0.out wq hC; go_simp) rfl)
            · exact Free.ob_plain _ rfl rfl fun vals wq hC hd => (by exact Free.d_assign rfl (Eq.trans (b := vals 2) (by kernel_rfl) (hd 2 (by kernel_rfl))) rfl)
            · exact Free.ob_plain _ rfl rfl fun vals wq hC hd => (by exact Free.d_assign rfl (Eq.trans (b := vals 5) (by kernel_rfl) (hd 5 (by kernel_rfl))) rfl)
            · exact Free.ob_plain _ rfl rfl fun vals wq hC hd => (by exact Free.d_assign rfl rfl rfl)
          · intro vals wq hC hd
            have e0 : vals 0 = (.slice (some ⟨b, off, none⟩) 1 c) := hd 0 (by decide)
            have e1 : vals 1 = (.pointer (some ⟨b, off, none⟩)) := hd 1 (by decide)
            have e2 : vals 2 = (sv x) := hd 2 (by decide)
            have e3 : vals 3 = (.slice (some ⟨b, off, none⟩) 1 c) := hd 3 (by decide)
            have e4 : vals 4 = (.pointer (some ⟨b, off, none⟩)) := hd 4 (by decide)
            have e5 : vals 5 = (sv x) := hd 5 (by decide)
            have e6 : vals 6 = (sv x) := hd 6 (by decide)
            have e7 : vals 7 = (sv x) := hd 7 (by decide)
            have e8 : vals 8 = (Value.bool true) := hd 8 (by decide)
            simp only [Free.frameOf, List.range, List.range.loop, List.foldl, Free.dstOf, List.getElem?_toArray, List.getElem?_cons_zero, List.getElem?_cons_succ, Option.bind_some, Act.put, List.setIfInBounds_toArray, List.set_cons_zero, List.set_cons_succ, e0, e1, e2, e3, e4, e5, e6, e7, e8]
            refine wpList_nil ?_
            clear hd e0 e1 e2 e3 e4 e5 e6 e7 e8
            have HB := Lib.hid hC
            clear hC
            go_wp2
            go_ret3
            exact ⟨by rw [HE.out]; rfl, HB.out⟩
        · have b0 : ((k : Int) == 1) = false := beq_eq_false_iff_ne.2 (by omega)
          have HE := Lib.hid (Cons.roots_bad tnd [] m one p (by rw [HLN.out]; exact hk1))
          clear h32 h1 hs
          go_enter Tryd.func87, Tryd.ntmps87
          go_wp2
          go_ret3
          exact ⟨by rw [HE.out]; rfl, Below.refl _ _⟩
    · have b1 : ((m : Int) == (n : Int)) = false := beq_eq_false_iff_ne.2 (by omega)
      by_cases hk0 : k = 0
      · subst hk0
        have HE := Lib.hid (show Cons.roots tnd [] m n wh one p = ([], [], false) by
          rw [List.length_eq_zero_iff.1 HLN.out]; exact Cons.roots_nil _ _ he _ _)
        clear h32 h1 hs
        go_enter Tryd.func87, Tryd.ntmps87
        go_wp2
        go_ret3
        exact ⟨by rw [HE.out]; rfl, Below.refl _ _⟩
      · have b0 : ((k : Int) == 0) = false := beq_eq_false_iff_ne.2 (by omega)
        match q, hq with
        | 0, hq => omega
        | q + 1, hq =>
        obtain ⟨k0, hkk⟩ : ∃ k0, Tree.sp n = k0 := ⟨_, rfl⟩
        have kp := Tree.sp_pos (n := n) (by omega)
        have kl := Tree.sp_lt (n := n) (by omega)
        rw [hkk] at kp kl
        have HSP := Lib.hid (show Tree.spz (n : Int) = k0 by rw [Tree.spz_in (by omega) (by omega), hkk])
        obtain ⟨t, ht⟩ : ∃ t, t + 1 = k := ⟨k - 1, by omega⟩
        have e1 : (k : Int) - 1 = (t : Int) := by omega
        obtain ⟨b, off, rfl, hbb, hcell, x, hx⟩ := hs.at (k := t) (by omega)
        have x0 := hcell t x hx
        have hp : p = p.take t ++ [x] := by
          have := List.take_add_one (l := p) (i := t)
          rw [hx, List.take_of_length_le (by rw [HLN.out]; omega)] at this
          exact this
        have HX32 := Lib.hid (show x.length ≤ 100000 by rw [h32 x (List.mem_of_getElem? hx)]; omega)
        have HT32 := Lib.hid (all_take h32 t)
        have HS := Lib.hid hs
        have HH1 := Lib.hid h1
        have IH := Lib.hid (fun (m' n' : Nat) (wh' : Bool) (A' : Option Addr) (k' c' : Nat) (W : World) (g1 : n' ≤ q ∧ 1 ≤ m' ∧ m' ≤ n') (g2 : n' ≤ 1099511627776) (g3 : Ss W A' k' c' (p.take t)) => roots_any q m' n' wh' one A' k' c' (p.take t) W g1.1 g1.2.1 g1.2.2 g2 HH1.out g3 HT32.out)
        unfold RootsPost at IH
        by_cases hlt : m ≤ k0
        · have HE := Lib.hid (show Cons.roots tnd [] m n wh one p = ((Cons.roots tnd [] m k0 wh one (p.take t)).1, tnd (Cons.roots tnd [] m k0 wh one (p.take t)).2.1 x, (Cons.roots tnd [] m k0 wh one (p.take t)).2.2) by
            have := Cons.roots_left tnd [] (by omega) he (by rw [hkk]; exact hlt) wh one (p.take t) x
            rw [← hp, hkk] at this
            exact this)
          have hL := roots_len one h1 k0 m k0 wh (p.take t) (Nat.le_refl _) HT32.out
          have hr := fun (A' : Option Addr) (k' c' : Nat) (W : World) (g3 : Ss W A' k' c' (p.take t)) => IH.out m k0 wh A' k' c' W (by omega) (by omega) g3
          obtain ⟨r, hr0⟩ : ∃ r, Cons.roots tnd [] m k0 wh one (p.take t) = r := ⟨_, rfl⟩
          rw [hr0] at HE hL hr
          obtain ⟨ra, rb, ro⟩ := r
          have HL := Lib.hid hL
          have HR := Lib.hid hr
          have hci : (m : Int) ≤ (k0 : Int) := by omega
          clear hcell hx hp h32 h1 hs hkk hr0 hr hL IH
          go_enter Tryd.func87, Tryd.ntmps87
          go_wp2_with fail
          refine (rsplit_any (n : Int) w (by omega) (by omega)).mono ?_
          rintro e w1 ⟨rfl, rfl⟩
          rw [HSP.out]
          go_wp2_with (refine wl_cutS_hi rfl (.tmp 51) (.tmp 54) rfl rfl HS.out t rfl (by omega) ?_; intro A2 hs2)
          refine (HR.out A2 t c w hs2).mono ?_
          rintro e w3 ⟨rfl, hb3⟩
          have HB3 := Lib.hid hb3
          clear hb3
          go_wp2_with fail
          refine (rnode_any rb x w3 HL.out.2 HX32.out).mono ?_
          rintro e w4 ⟨rfl, hb4⟩
          have HB4 := Lib.hid (bt HB3.out hb4)
          clear hb4
          go_wp2
          go_ret3
          exact ⟨by rw [HE.out]; rfl, HB4.out⟩
        · obtain ⟨j, hj⟩ : ∃ j, j + k0 = m := ⟨m - k0, by omega⟩
          obtain ⟨n2, hn2⟩ : ∃ n2, n2 + k0 = n := ⟨n - k0, by omega⟩
          have e2 : (m : Int) - (k0 : Int) = (j : Int) := by omega
          have e3 : (n : Int) - (k0 : Int) = (n2 : Int) := by omega
          have HE := Lib.hid (show Cons.roots tnd [] m n wh one p = (tnd x (Cons.roots tnd [] j n2 false one (p.take t)).1, tnd x (Cons.roots tnd [] j n2 false one (p.take t)).2.1, (Cons.roots tnd [] j n2 false one (p.take t)).2.2) by
            have := Cons.roots_right tnd [] (by omega) he (by rw [hkk]; exact hlt) wh one (p.take t) x
            rw [← hp, hkk, show m - k0 = j by omega, show n - k0 = n2 by omega] at this
            exact this)
          have hL := roots_len one h1 n2 j n2 false (p.take t) (Nat.le_refl _) HT32.out
          have hr := fun (A' : Option Addr) (k' c' : Nat) (W : World) (g3 : Ss W A' k' c' (p.take t)) => IH.out j n2 false A' k' c' W (by omega) (by omega) g3
          obtain ⟨r, hr0⟩ : ∃ r, Cons.roots tnd [] j n2 false one (p.take t) = r := ⟨_, rfl⟩
          rw [hr0] at HE hL hr
          obtain ⟨ra, rb, ro⟩ := r
          have HL := Lib.hid hL
          have HR := Lib.hid hr
          have hci : ¬ (m : Int) ≤ (k0 : Int) := by omega
          have hci2 : (k0 : Int) < (m : Int) := by omega
          clear hcell hx hp h32 h1 hs hkk hr0 hr hL IH
          go_enter Tryd.func87, Tryd.ntmps87
          go_wp2_with fail
          refine (rsplit_any (n : Int) w (by omega) (by omega)).mono ?_
          rintro e w1 ⟨rfl, rfl⟩
          rw [HSP.out]
          go_wp2_with (refine wl_cutS_hi rfl (.tmp 51) (.tmp 54) rfl rfl HS.out t rfl (by omega) ?_; intro A2 hs2)
          refine (HR.out A2 t c w hs2).mono ?_
          rintro e w3 ⟨rfl, hb3⟩
          have HB3 := Lib.hid hb3
          clear hb3
          go_wp2_with fail
          refine (rnode_any x ra w3 HX32.out HL.out.1).mono ?_
          rintro e w4 ⟨rfl, hb4⟩
          have HB4 := Lib.hid (bt HB3.out hb4)
          clear hb4
          go_wp2_with fail
          refine (rnode_any x rb w4 HX32.out HL.out.2).mono ?_
          rintro e w5 ⟨rfl, hb5⟩
          have HB5 := Lib.hid (bt HB4.out hb5)
          clear hb5
          go_wp2
          go_ret3
          exact ⟨by rw [HE.out]; rfl, HB5.out⟩
set_option maxRecDepth 100000 in
set_option maxHeartbeats 8000000 in
theorem ccheck_arg (m n : Int) (one two : List UInt8) (A : Option Addr) (k c : Nat) (w : World) (hl1 : one.length ≤ 1000) (hl2 : two.length ≤ 1000) (h1 : -9223372036854775808 ≤ m) (h2 : m ≤ 9223372036854775807) (h3 : -9223372036854775808 ≤ n) (h4 : n ≤ 9223372036854775807)
    (hbad : m < 0 ∨ n < m ∨ 1099511627776 < n ∨ ¬ one.length = 32 ∨ ¬ two.length = 32) :
    Calls Tryd.prog 31 #[.int .i64 m, .int .i64 n, sv one, sv two, .slice A k c] w (RetI 1 w) := by
  have z1 := strLen one
  have z2 := strLen two
  obtain ⟨q1, hq1⟩ : ∃ q, one.length = q := ⟨_, rfl⟩
  obtain ⟨q2, hq2⟩ : ∃ q, two.length = q := ⟨_, rfl⟩
  rw [hq1] at z1 hl1 hbad
  rw [hq2] at z2 hl2 hbad
  clear hq1 hq2
  by_cases a1 : m < 0
  · clear hbad
    go_enter Tryd.func31, Tryd.ntmps31
    go_wp2
    go_ret
    exact ⟨rfl, Below.refl _ _⟩
  · by_cases a2 : n < m
    · clear hbad
      go_enter Tryd.func31, Tryd.ntmps31
      go_wp2
      go_ret
      exact ⟨rfl, Below.refl _ _⟩
    · by_cases a3 : 1099511627776 < n
      · clear hbad
        go_enter Tryd.func31, Tryd.ntmps31
        go_wp2
        go_ret
        exact ⟨rfl, Below.refl _ _⟩
      · by_cases a4 : q1 = 32
        · by_cases a5 : q2 = 32
          · exfalso
            rcases hbad with h | h | h | h | h <;> omega
          · have b5 : ¬ (q2 : Int) = 32 := by omega
            have b6 : ((q2 : Int) == 32) = false := beq_eq_false_iff_ne.2 b5
            subst a4
            clear hbad
            go_enter Tryd.func31, Tryd.ntmps31
            go_wp2
            go_ret
            exact ⟨rfl, Below.refl _ _⟩
        · have b5 : ¬ (q1 : Int) = 32 := by omega
          have b6 : ((q1 : Int) == 32) = false := beq_eq_false_iff_ne.2 b5
          clear hbad
          go_enter Tryd.func31, Tryd.ntmps31
          go_wp2
          go_ret
          exact ⟨rfl, Below.refl _ _⟩
set_option maxRecDepth 100000 in
set_option maxHeartbeats 8000000 in
theorem rcheck_any (m n : Nat) (one two : List UInt8) (A : Option Addr) (k c : Nat) (p : List (List UInt8)) (w : World) (hs : Ss w A k c p) (hwf : ∀ s ∈ p, s.length ≤ maxLen) (hmn : m ≤ n) (hn : n ≤ 1099511627776) (h1 : one.length = 32) :
    Calls Tryd.prog 67 #[.int .i64 (m : Int), .int .i64 (n : Int), sv one, sv two, .slice A k c] w (RetB (Tree.all32 p && tcheck m n one two p) w) := by
  have hmx := hs.max
  have hcap := hs.cap
  rw [maxLen_eq] at hmx
  have hln := hs.len
  have hr6 := right6_any A k c p w hs hwf
  cases ha : Tree.all32 p with
  | false =>
    rw [ha] at hr6
    have HR6 := Lib.hid hr6
    have HV := Lib.hid (show (false && tcheck m n one two p) = false from rfl)
    clear hr6 hs hwf ha
    go_enter Tryd.func67, Tryd.ntmps67
    go_wp2_with fail
    refine HR6.out.mono ?_
    rintro e w1 ⟨rfl, rfl⟩
    go_wp2
    go_ret
    exact ⟨by rw [HV.out]; rfl, Below.refl _ _⟩
  | true =>
    rw [ha] at hr6
    have h32 := Tree.all32_iff.1 ha
    have HR6 := Lib.hid hr6
    rw [Bool.true_and]
    clear hr6 hwf ha
    by_cases hm0 : m = 0
    · subst hm0
      rw [tcheck_zero, hln]
      obtain ⟨V, hV⟩ : ∃ V, (decide (k = 0) && decide (one = tnil)) = V := ⟨_, rfl⟩
      rw [hV]
      have SN := Lib.hid (rsum_any none 0 0 [] w Rd.nil rfl (Nat.le_refl _) (by decide) (by omega))
      have e1 := strEq one (Sha.sum [])
      clear hs h32 hln
      by_cases hk0 : k = 0
      · subst hk0
        by_cases he : one = Sha.sum []
        · rw [decide_eq_true he] at e1
          have HE := Lib.hid (show V = true by rw [← hV, decide_eq_true (show one = tnil from he)]; rfl)
          clear he hV
          go_enter Tryd.func67, Tryd.ntmps67
          go_wp2_with fail
          refine HR6.out.mono ?_
          rintro e w1 ⟨rfl, rfl⟩
          go_wp2_with fail
          refine SN.out.mono ?_
          rintro e w1 ⟨rfl, hb1⟩
          have HB1 := Lib.hid hb1
          clear hb1
          go_wp2
          go_ret
          exact ⟨by rw [HE.out]; rfl, HB1.out⟩
        · rw [decide_eq_false he] at e1
          have HE := Lib.hid (show V = false by rw [← hV, decide_eq_false (show ¬ one = tnil from he)]; rfl)
          clear he hV
          go_enter Tryd.func67, Tryd.ntmps67
          go_wp2_with fail
          refine HR6.out.mono ?_
          rintro e w1 ⟨rfl, rfl⟩
          go_wp2_with fail
          refine SN.out.mono ?_
          rintro e w1 ⟨rfl, hb1⟩
          have HB1 := Lib.hid hb1
          clear hb1
          go_wp2
          go_ret
          exact ⟨by rw [HE.out]; rfl, HB1.out⟩
      · have b0 : ((k : Int) == 0) = false := beq_eq_false_iff_ne.2 (by omega)
        have HE := Lib.hid (show V = false by rw [← hV, decide_eq_false hk0]; rfl)
        clear hV
        go_enter Tryd.func67, Tryd.ntmps67
        go_wp2_with fail
        refine HR6.out.mono ?_
        rintro e w1 ⟨rfl, rfl⟩
        go_wp2
        go_ret
        exact ⟨by rw [HE.out]; rfl, Below.refl _ _⟩
    · have b0 : ((m : Int) == 0) = false := beq_eq_false_iff_ne.2 (by omega)
      have hra := roots_any n m n true one A k c p w (Nat.le_refl _) (by omega) hmn hn (by omega) hs h32
      unfold tcheck
      rw [if_neg hm0]
      obtain ⟨r, hr0⟩ : ∃ r, Cons.roots tnd [] m n true one p = r := ⟨_, rfl⟩
      rw [hr0] at hra ⊢
      obtain ⟨ra, rb, ro⟩ := r
      obtain ⟨V, hV⟩ : ∃ V, (ro && decide (ra = one) && decide (rb = two)) = V := ⟨_, rfl⟩
      show Calls _ _ _ _ (RetB (ro && decide (ra = one) && decide (rb = two)) w)
      rw [hV]
      have HRA := Lib.hid hra
      have e1 := strEq ra one
      have e2 := strEq rb two
      clear hra hr0 hs h32
      cases ro with
      | false =>
        have HE := Lib.hid (show V = false by rw [← hV]; rfl)
        clear hV e1 e2
        go_enter Tryd.func67, Tryd.ntmps67
        go_wp2_with fail
        refine HR6.out.mono ?_
        rintro e w1 ⟨rfl, rfl⟩
        go_wp2_with fail
        refine HRA.out.mono ?_
        rintro e w1 ⟨rfl, hb1⟩
        have HB1 := Lib.hid hb1
        clear hb1
        go_wp2
        go_ret
        exact ⟨by rw [HE.out]; rfl, HB1.out⟩
      | true =>
        by_cases h1' : ra = one
        · rw [decide_eq_true h1'] at e1 hV
          by_cases h2' : rb = two
          · rw [decide_eq_true h2'] at e2 hV
            have HE := Lib.hid (show V = true by rw [← hV]; rfl)
            clear hV h1' h2'
            go_enter Tryd.func67, Tryd.ntmps67
            go_wp2_with fail
            refine HR6.out.mono ?_
            rintro e w1 ⟨rfl, rfl⟩
            go_wp2_with fail
            refine HRA.out.mono ?_
            rintro e w1 ⟨rfl, hb1⟩
            have HB1 := Lib.hid hb1
            clear hb1
            go_wp2
            go_ret
            exact ⟨by rw [HE.out]; rfl, HB1.out⟩
          · rw [decide_eq_false h2'] at e2 hV
            have HE := Lib.hid (show V = false by rw [← hV]; rfl)
            clear hV h1' h2'
            go_enter Tryd.func67, Tryd.ntmps67
            go_wp2_with fail
            refine HR6.out.mono ?_
            rintro e w1 ⟨rfl, rfl⟩
            go_wp2_with fail
            refine HRA.out.mono ?_
            rintro e w1 ⟨rfl, hb1⟩
            have HB1 := Lib.hid hb1
            clear hb1
            go_wp2
            go_ret
            exact ⟨by rw [HE.out]; rfl, HB1.out⟩
        · rw [decide_eq_false h1'] at e1 hV
          have HE := Lib.hid (show V = false by rw [← hV]; rfl)
          clear hV h1'
          go_enter Tryd.func67, Tryd.ntmps67
          go_wp2_with fail
          refine HR6.out.mono ?_
          rintro e w1 ⟨rfl, rfl⟩
          go_wp2_with fail
          refine HRA.out.mono ?_
          rintro e w1 ⟨rfl, hb1⟩
          have HB1 := Lib.hid hb1
          clear hb1
          go_wp2
          go_ret
          exact ⟨by rw [HE.out]; rfl, HB1.out⟩
end Go.Proofs.YtlcdpbpbfofmmaaDoor
