/- SealApart: the walk of the law. -/
import Derived.Test.YtcnjpcmadkkhfaaDoorSealTwo
namespace Go.Proofs.YtcnjpcmadkkhfaaDoor
set_option linter.unusedVariables false
open Go.RowKit

theorem postsP (A : Option Addr) (n c : Nat) (l : List UInt8) (w : World) (hr : Rd w w.heap.size A (l.map bv)) (hl : l.length = n) (hc : n ≤ c) (hm : c ≤ maxLen) (hs : n ≤ 1000000) :
    Calls Tryd.prog 27 #[.slice A n c] w (PieceP (n + 1) (2 :: l) w) := (postsBytes_any A n c l w hr hl hc hm hs).mono fun e w' h => h.piece (by rw [hl])
theorem headP (A : Option Addr) (n c : Nat) (l : List UInt8) (w : World) (hr : Rd w w.heap.size A (l.map bv)) (hl : l.length = n) (hc : n ≤ c) (hm : c ≤ maxLen) (hs : n ≤ 1000000) :
    Calls Tryd.prog 28 #[.slice A n c] w (PieceP (n + 1) (3 :: l) w) := (headBytes_any A n c l w hr hl hc hm hs).mono fun e w' h => h.piece (by rw [hl])
/-- The four lists of bytes. -/
def four (a l r : List UInt8) (i : Nat) : List UInt8 := match i with | 0 => 0 :: a | 1 => 1 :: (l ++ r) | 2 => 2 :: a | _ => 3 :: a
theorem four_apart {a b l r p q : List UInt8} {i k : Nat} (hi : i < 4) (hk : k < 4) (h : i ≠ k) : ¬ four a l r i = four b p q k := by
  rcases (show i = 0 ∨ i = 1 ∨ i = 2 ∨ i = 3 by omega) with rfl | rfl | rfl | rfl <;> rcases (show k = 0 ∨ k = 1 ∨ k = 2 ∨ k = 3 by omega) with rfl | rfl | rfl | rfl <;> simp_all [four]
theorem four_like {a b l r p q : List UInt8} {i k : Nat} (hi : i < 4) (h : i = k) (h1 : ¬ i = 1) : four a l r i = four b p q k ↔ a = b := by
  subst h
  rcases (show i = 0 ∨ i = 2 ∨ i = 3 by omega) with rfl | rfl | rfl <;> simp [four]
theorem four_one {a b l r p q : List UInt8} {i k : Nat} (h : i = 1) (hk : k = 1) (hl : l.length = p.length) : four a l r i = four b p q k ↔ (l = p ∧ r = q) := by
  subst h hk
  show (1 :: (l ++ r) = 1 :: (p ++ q)) ↔ _
  rw [List.cons.injEq]
  simp [append32 hl]
theorem four_get (a l r : List UInt8) (i : Nat) (hi : i < 4) : ([sv (0 :: a), sv (1 :: (l ++ r)), sv (2 :: a), sv (3 :: a)] : List Value)[i]? = some (sv (four a l r i)) := by
  rcases (show i = 0 ∨ i = 1 ∨ i = 2 ∨ i = 3 by omega) with rfl | rfl | rfl | rfl <;> rfl
set_option maxRecDepth 100000 in
set_option maxHeartbeats 16000000 in
theorem apart_any (A : Option Addr) (n c : Nat) (a : List UInt8) (B : Option Addr) (m k : Nat) (b : List UInt8) (l : List UInt8) (hwl : l.length ≤ maxLen) (r : List UInt8) (hwr : r.length ≤ maxLen) (p : List UInt8) (hwp : p.length ≤ maxLen) (q : List UInt8) (hwq : q.length ≤ maxLen) (w : World)
    (hr : Rd w w.heap.size A (a.map bv)) (hn : a.length = n) (hc : n ≤ c) (hm : c ≤ maxLen) (hr2 : Rd w w.heap.size B (b.map bv)) (hn2 : b.length = m) (hk : m ≤ k) (hk2 : k ≤ maxLen) (ht : Tabs w) :
    Calls Tryd.prog 8 #[.slice A n c, .slice B m k, sv l, sv r, sv p, sv q] w (Yes w) := by
  have HT := Lib.hid ht
  have HR := Lib.hid (And.intro hr (And.intro hn hm))
  have HR2 := Lib.hid (And.intro hr2 (And.intro hn2 hk2))
  rw [maxLen_eq] at hm hk2
  clear hr hn ht hr2 hn2 hwl hwr hwp hwq
  obtain ⟨nl, hnl⟩ : ∃ x, l.length = x := ⟨_, rfl⟩
  obtain ⟨nr, hnr⟩ : ∃ x, r.length = x := ⟨_, rfl⟩
  obtain ⟨np, hnp⟩ : ∃ x, p.length = x := ⟨_, rfl⟩
  obtain ⟨nq, hnq⟩ : ∃ x, q.length = x := ⟨_, rfl⟩
  have z1 : (str l).size = nl := by rw [str_size]; exact hnl
  have z2 : (str r).size = nr := by rw [str_size]; exact hnr
  have z3 : (str p).size = np := by rw [str_size]; exact hnp
  have z4 : (str q).size = nq := by rw [str_size]; exact hnq
  have HN := Lib.hid (And.intro hnl (And.intro hnr (And.intro hnp hnq)))
  clear hnl hnr hnp hnq
  have skip : ∀ (hbig : ¬ (n ≤ 2000 ∧ m ≤ 2000 ∧ nl = 32 ∧ nr = 32 ∧ np = 32 ∧ nq = 32)), Calls Tryd.prog 8 #[.slice A n c, .slice B m k, sv l, sv r, sv p, sv q] w (Yes w) := by
    intro hbig
    by_cases h1 : n ≤ 2000
    · have g1 : decide (n > 2000) = false := decide_eq_false (by omega)
      have G := Lib.hid g1
      clear g1
      by_cases h2 : m ≤ 2000
      · have g2 : decide (m > 2000) = false := decide_eq_false (by omega)
        have G2 := Lib.hid g2
        clear g2
        by_cases hnl : nl = 32
        · subst hnl
          by_cases hnr : nr = 32
          · subst hnr
            by_cases hnp : np = 32
            · subst hnp
              by_cases hnq : nq = 32
              · exact absurd ⟨h1, h2, by omega, by omega, by omega, by omega⟩ hbig
              · have fnq : ((nq : Int) == 32) = false := by simpa using (by omega : ¬ (nq : Int) = 32)
                clear hbig
                go_enter Tryd.func8, Tryd.ntmps8
                go_wp2_with fail
                refine (great_any A n c w hc hm).mono ?_
                rintro e w0 ⟨rfl, rfl⟩
                rw [G.out]
                go_wp2_with fail
                refine (great_any B m k w hk hk2).mono ?_
                rintro e w0 ⟨rfl, rfl⟩
                rw [G2.out]
                go_wp2_with fail
                refine (knows3_any _ HT.out).mono ?_
                rintro e w4 ⟨rfl, hb4⟩
                go_wp2
                go_ret
                exact ⟨rfl, hb4⟩
            · have fnp : ((np : Int) == 32) = false := by simpa using (by omega : ¬ (np : Int) = 32)
              clear hbig
              go_enter Tryd.func8, Tryd.ntmps8
              go_wp2_with fail
              refine (great_any A n c w hc hm).mono ?_
              rintro e w0 ⟨rfl, rfl⟩
              rw [G.out]
              go_wp2_with fail
              refine (great_any B m k w hk hk2).mono ?_
              rintro e w0 ⟨rfl, rfl⟩
              rw [G2.out]
              go_wp2_with fail
              refine (knows3_any _ HT.out).mono ?_
              rintro e w4 ⟨rfl, hb4⟩
              go_wp2
              go_ret
              exact ⟨rfl, hb4⟩
          · have fnr : ((nr : Int) == 32) = false := by simpa using (by omega : ¬ (nr : Int) = 32)
            clear hbig
            go_enter Tryd.func8, Tryd.ntmps8
            go_wp2_with fail
            refine (great_any A n c w hc hm).mono ?_
            rintro e w0 ⟨rfl, rfl⟩
            rw [G.out]
            go_wp2_with fail
            refine (great_any B m k w hk hk2).mono ?_
            rintro e w0 ⟨rfl, rfl⟩
            rw [G2.out]
            go_wp2_with fail
            refine (knows3_any _ HT.out).mono ?_
            rintro e w4 ⟨rfl, hb4⟩
            go_wp2
            go_ret
            exact ⟨rfl, hb4⟩
        · have fnl : ((nl : Int) == 32) = false := by simpa using (by omega : ¬ (nl : Int) = 32)
          clear hbig
          go_enter Tryd.func8, Tryd.ntmps8
          go_wp2_with fail
          refine (great_any A n c w hc hm).mono ?_
          rintro e w0 ⟨rfl, rfl⟩
          rw [G.out]
          go_wp2_with fail
          refine (great_any B m k w hk hk2).mono ?_
          rintro e w0 ⟨rfl, rfl⟩
          rw [G2.out]
          go_wp2_with fail
          refine (knows3_any _ HT.out).mono ?_
          rintro e w4 ⟨rfl, hb4⟩
          go_wp2
          go_ret
          exact ⟨rfl, hb4⟩
      · have g2 : decide (m > 2000) = true := decide_eq_true (by omega)
        have G2 := Lib.hid g2
        clear g2 hbig
        go_enter Tryd.func8, Tryd.ntmps8
        go_wp2_with fail
        refine (great_any A n c w hc hm).mono ?_
        rintro e w0 ⟨rfl, rfl⟩
        rw [G.out]
        go_wp2_with fail
        refine (great_any B m k w hk hk2).mono ?_
        rintro e w0 ⟨rfl, rfl⟩
        rw [G2.out]
        go_wp2_with fail
        refine (knows3_any _ HT.out).mono ?_
        rintro e w4 ⟨rfl, hb4⟩
        go_wp2
        go_ret
        exact ⟨rfl, hb4⟩
    · have g1 : decide (n > 2000) = true := decide_eq_true (by omega)
      have G := Lib.hid g1
      clear g1 hbig
      go_enter Tryd.func8, Tryd.ntmps8
      go_wp2_with fail
      refine (great_any A n c w hc hm).mono ?_
      rintro e w0 ⟨rfl, rfl⟩
      rw [G.out]
      go_wp2_with fail
      refine (knows3_any _ HT.out).mono ?_
      rintro e w4 ⟨rfl, hb4⟩
      go_wp2
      go_ret
      exact ⟨rfl, hb4⟩
  by_cases hbig : n ≤ 2000 ∧ m ≤ 2000 ∧ nl = 32 ∧ nr = 32 ∧ np = 32 ∧ nq = 32
  · clear skip
    obtain ⟨h1, h2, rfl, rfl, rfl, rfl⟩ := hbig
    have g1 : decide (n > 2000) = false := decide_eq_false (by omega)
    have G := Lib.hid g1
    have g2 : decide (m > 2000) = false := decide_eq_false (by omega)
    have G2 := Lib.hid g2
    clear g1 g2
    go_enter Tryd.func8, Tryd.ntmps8
    go_wp2_with fail
    refine (great_any A n c w hc hm).mono ?_
    rintro e w0 ⟨rfl, rfl⟩
    rw [G.out]
    go_wp2_with fail
    refine (great_any B m k w hk hk2).mono ?_
    rintro e w0 ⟨rfl, rfl⟩
    rw [G2.out]
    go_wp2_with fail
    have Q0 := fun (W : World) (h : Below w.heap.size w W) => leafP A n c a W (HR.out.1.below' h (Nat.le_refl _) |>.more (h).size) HR.out.2.1 hc HR.out.2.2 (by omega)
    have Q1 := fun (W : World) (h : Below w.heap.size w W) => nodeP l r W HN.out.1 HN.out.2.1
    have Q2 := fun (W : World) (h : Below w.heap.size w W) => postsP A n c a W (HR.out.1.below' h (Nat.le_refl _) |>.more (h).size) HR.out.2.1 hc HR.out.2.2 (by omega)
    have Q3 := fun (W : World) (h : Below w.heap.size w W) => headP A n c a W (HR.out.1.below' h (Nat.le_refl _) |>.more (h).size) HR.out.2.1 hc HR.out.2.2 (by omega)
    refine Free.wp_free_l 15 (fun W => Below w.heap.size w W) [Free.kc (.slice A n c), Free.kr (n + 1) ((0 :: a).map bv), Free.kc (sv (0 :: a)), Free.kc (sv l), Free.kc (sv r), Free.kr (65) ((1 :: (l ++ r)).map bv), Free.kc (sv (1 :: (l ++ r))), Free.kc (.slice A n c), Free.kr (n + 1) ((2 :: a).map bv), Free.kc (sv (2 :: a)), Free.kc (.slice A n c), Free.kr (n + 1) ((3 :: a).map bv), Free.kc (sv (3 :: a)), Free.kr (4) ([sv (0 :: a), sv (1 :: (l ++ r)), sv (2 :: a), sv (3 :: a)]), Free.kr (4) ([sv (0 :: a), sv (1 :: (l ++ r)), sv (2 :: a), sv (3 :: a)])] (by kernel_rfl) (by kernel_rfl) (by decide) (Below.refl _ _).drew (fun w w' h g => bt h g) ?_ ?_
    · refine Free.forall_succ (Free.forall_succ (Free.forall_succ (Free.forall_succ (Free.forall_succ (Free.forall_succ (Free.forall_succ (Free.forall_succ (Free.forall_succ (Free.forall_succ (Free.forall_succ (Free.forall_succ (Free.forall_succ (Free.forall_succ (Free.forall_succ (Free.forall_zero) ?_) ?_) ?_) ?_) ?_) ?_) ?_) ?_) ?_) ?_) ?_) ?_) ?_) ?_) ?_
      · exact Free.ob_plain _ rfl rfl fun vals wq hC hd => (by exact Free.d_move rfl (by kernel_rfl) rfl)
      · exact Free.ob_plain _ rfl rfl fun vals wq hC hd => (by exact Free.d_call Tryd.func25 (by kernel_rfl) (by kernel_rfl) rfl rfl (Free.arg1 (Eq.trans (b := vals 0) (by kernel_rfl) (hd 0 (by kernel_rfl)))) ((Q0 wq hC).mono fun e w2 h => (by obtain ⟨A2, k2, he, hr2, h1, h2, hb⟩ := h; exact ⟨_, he, ⟨A2, k2, rfl, hr2, h1, h2⟩, hb⟩)))
      · exact Free.ob_plain _ rfl rfl fun vals wq hC hd => (by obtain ⟨A1, k1, e1, rd1, le1, mx1⟩ := hd 1 (by kernel_rfl); exact Free.d_conv rfl (Eq.trans (b := vals 1) (by kernel_rfl) e1) (run_str (P := Tryd.prog) 22 9 5 Tryd.underlying22 Tryd.underlying5 Tryd.underlying9 A1 _ k1 _ (0 :: a) rd1 (by simp [HR.out.2.1])) (Below.refl _ _) rfl)
      · exact Free.ob_plain _ rfl rfl fun vals wq hC hd => (by exact Free.d_move rfl (by kernel_rfl) rfl)
      · exact Free.ob_plain _ rfl rfl fun vals wq hC hd => (by exact Free.d_move rfl (by kernel_rfl) rfl)
      · exact Free.ob_plain _ rfl rfl fun vals wq hC hd => (by exact Free.d_call Tryd.func26 (by kernel_rfl) (by kernel_rfl) rfl rfl (Free.arg2 (Eq.trans (b := vals 3) (by kernel_rfl) (hd 3 (by kernel_rfl))) (Eq.trans (b := vals 4) (by kernel_rfl) (hd 4 (by kernel_rfl)))) ((Q1 wq hC).mono fun e w2 h => (by obtain ⟨A2, k2, he, hr2, h1, h2, hb⟩ := h; exact ⟨_, he, ⟨A2, k2, rfl, hr2, h1, h2⟩, hb⟩)))
      · exact Free.ob_plain _ rfl rfl fun vals wq hC hd => (by obtain ⟨A5, k5, e5, rd5, le5, mx5⟩ := hd 5 (by kernel_rfl); exact Free.d_conv rfl (Eq.trans (b := vals 5) (by kernel_rfl) e5) (run_str (P := Tryd.prog) 22 9 5 Tryd.underlying22 Tryd.underlying5 Tryd.underlying9 A5 _ k5 _ (1 :: (l ++ r)) rd5 (by simp [HN.out.1, HN.out.2.1])) (Below.refl _ _) rfl)
      · exact Free.ob_plain _ rfl rfl fun vals wq hC hd => (by exact Free.d_move rfl (by kernel_rfl) rfl)
      · exact Free.ob_plain _ rfl rfl fun vals wq hC hd => (by exact Free.d_call Tryd.func27 (by kernel_rfl) (by kernel_rfl) rfl rfl (Free.arg1 (Eq.trans (b := vals 7) (by kernel_rfl) (hd 7 (by kernel_rfl)))) ((Q2 wq hC).mono fun e w2 h => (by obtain ⟨A2, k2, he, hr2, h1, h2, hb⟩ := h; exact ⟨_, he, ⟨A2, k2, rfl, hr2, h1, h2⟩, hb⟩)))
      · exact Free.ob_plain _ rfl rfl fun vals wq hC hd => (by obtain ⟨A8, k8, e8, rd8, le8, mx8⟩ := hd 8 (by kernel_rfl); exact Free.d_conv rfl (Eq.trans (b := vals 8) (by kernel_rfl) e8) (run_str (P := Tryd.prog) 22 9 5 Tryd.underlying22 Tryd.underlying5 Tryd.underlying9 A8 _ k8 _ (2 :: a) rd8 (by simp [HR.out.2.1])) (Below.refl _ _) rfl)
      · exact Free.ob_plain _ rfl rfl fun vals wq hC hd => (by exact Free.d_move rfl (by kernel_rfl) rfl)
      · exact Free.ob_plain _ rfl rfl fun vals wq hC hd => (by exact Free.d_call Tryd.func28 (by kernel_rfl) (by kernel_rfl) rfl rfl (Free.arg1 (Eq.trans (b := vals 10) (by kernel_rfl) (hd 10 (by kernel_rfl)))) ((Q3 wq hC).mono fun e w2 h => (by obtain ⟨A2, k2, he, hr2, h1, h2, hb⟩ := h; exact ⟨_, he, ⟨A2, k2, rfl, hr2, h1, h2⟩, hb⟩)))
      · exact Free.ob_plain _ rfl rfl fun vals wq hC hd => (by obtain ⟨A11, k11, e11, rd11, le11, mx11⟩ := hd 11 (by kernel_rfl); exact Free.d_conv rfl (Eq.trans (b := vals 11) (by kernel_rfl) e11) (run_str (P := Tryd.prog) 22 9 5 Tryd.underlying22 Tryd.underlying5 Tryd.underlying9 A11 _ k11 _ (3 :: a) rd11 (by simp [HR.out.2.1])) (Below.refl _ _) rfl)
      · exact Free.ob_plain _ rfl rfl fun vals wq hC hd => (by exact Free.d_build (w' := wq.alloc (.cells ([sv (0 :: a), sv (1 :: (l ++ r)), sv (2 :: a), sv (3 :: a)] : List Value).toArray 9)) rfl (Free.parts4 (Eq.trans (b := vals 2) (by kernel_rfl) (hd 2 (by kernel_rfl))) (Eq.trans (b := vals 6) (by kernel_rfl) (hd 6 (by kernel_rfl))) (Eq.trans (b := vals 9) (by kernel_rfl) (hd 9 (by kernel_rfl))) (Eq.trans (b := vals 12) (by kernel_rfl) (hd 12 (by kernel_rfl)))) (by go_simp) ((Below.refl _ _).alloc (Nat.le_refl _) _) ⟨_, _, rfl, (rd_new wq [_, _, _, _] _ _).more (by unfold World.alloc; simp), Nat.le_refl _, by rw [maxLen_eq]; omega⟩)
      · exact Free.ob_plain _ rfl rfl fun vals wq hC hd => (by obtain ⟨A13, k13, e13, rd13, le13, mx13⟩ := hd 13 (by kernel_rfl); exact Free.d_assign rfl (Eq.trans (b := vals 13) (by kernel_rfl) e13) ⟨A13, k13, rfl, rd13, le13, mx13⟩)
    · intro vals wq hC hd
      have e0 : vals 0 = (.slice A n c) := hd 0 (by decide)
      obtain ⟨A1, k1, e1, rd1, le1, mx1⟩ := hd 1 (by decide)
      have e2 : vals 2 = (sv (0 :: a)) := hd 2 (by decide)
      have e3 : vals 3 = (sv l) := hd 3 (by decide)
      have e4 : vals 4 = (sv r) := hd 4 (by decide)
      obtain ⟨A5, k5, e5, rd5, le5, mx5⟩ := hd 5 (by decide)
      have e6 : vals 6 = (sv (1 :: (l ++ r))) := hd 6 (by decide)
      have e7 : vals 7 = (.slice A n c) := hd 7 (by decide)
      obtain ⟨A8, k8, e8, rd8, le8, mx8⟩ := hd 8 (by decide)
      have e9 : vals 9 = (sv (2 :: a)) := hd 9 (by decide)
      have e10 : vals 10 = (.slice A n c) := hd 10 (by decide)
      obtain ⟨A11, k11, e11, rd11, le11, mx11⟩ := hd 11 (by decide)
      have e12 : vals 12 = (sv (3 :: a)) := hd 12 (by decide)
      obtain ⟨A13, k13, e13, rd13, le13, mx13⟩ := hd 13 (by decide)
      obtain ⟨A14, k14, e14, rd14, le14, mx14⟩ := hd 14 (by decide)
      simp only [Free.frameOf, List.range, List.range.loop, List.foldl, Free.dstOf, List.getElem?_toArray, List.getElem?_cons_zero, List.getElem?_cons_succ, Option.bind_some, Act.put, List.setIfInBounds_toArray, List.set_cons_zero, List.set_cons_succ, e0, e1, e2, e3, e4, e5, e6, e7, e8, e9, e10, e11, e12, e13, e14]
      refine wpList_nil ?_
      clear hd e0 e1 e2 e3 e4 e5 e6 e7 e8 e9 e10 e11 e12 e13 e14
      have HB1 := Lib.hid hC
      have HX := Lib.hid (And.intro rd14 (And.intro le14 mx14))
      clear hC rd1 rd5 rd8 rd11 rd13 rd14 le1 le5 le8 le11 le13 le14 mx1 mx5 mx8 mx11 mx13 mx14 Q0 Q1 Q2 Q3
      obtain ⟨w1, hw1⟩ : ∃ x, wq = x := ⟨_, rfl⟩
      obtain ⟨AX, hAX⟩ : ∃ x, A14 = x := ⟨_, rfl⟩
      obtain ⟨kX, hkX⟩ : ∃ x, k14 = x := ⟨_, rfl⟩
      rw [hAX, hkX, hw1]
      rw [hAX, hkX, hw1] at HX
      rw [hw1] at HB1
      clear hw1 hAX hkX
      go_wp2_with fail
      have Q0 := fun (W : World) (h : Below w1.heap.size w1 W) => leafP B m k b W (HR2.out.1.below' (bt HB1.out h) (Nat.le_refl _) |>.more ((bt HB1.out h)).size) HR2.out.2.1 hk HR2.out.2.2 (by omega)
      have Q1 := fun (W : World) (h : Below w1.heap.size w1 W) => nodeP p q W HN.out.2.2.1 HN.out.2.2.2
      have Q2 := fun (W : World) (h : Below w1.heap.size w1 W) => postsP B m k b W (HR2.out.1.below' (bt HB1.out h) (Nat.le_refl _) |>.more ((bt HB1.out h)).size) HR2.out.2.1 hk HR2.out.2.2 (by omega)
      have Q3 := fun (W : World) (h : Below w1.heap.size w1 W) => headP B m k b W (HR2.out.1.below' (bt HB1.out h) (Nat.le_refl _) |>.more ((bt HB1.out h)).size) HR2.out.2.1 hk HR2.out.2.2 (by omega)
      refine Free.wp_free_l 15 (fun W => Below w1.heap.size w1 W) [Free.kc (.slice B m k), Free.kr (m + 1) ((0 :: b).map bv), Free.kc (sv (0 :: b)), Free.kc (sv p), Free.kc (sv q), Free.kr (65) ((1 :: (p ++ q)).map bv), Free.kc (sv (1 :: (p ++ q))), Free.kc (.slice B m k), Free.kr (m + 1) ((2 :: b).map bv), Free.kc (sv (2 :: b)), Free.kc (.slice B m k), Free.kr (m + 1) ((3 :: b).map bv), Free.kc (sv (3 :: b)), Free.kr (4) ([sv (0 :: b), sv (1 :: (p ++ q)), sv (2 :: b), sv (3 :: b)]), Free.kr (4) ([sv (0 :: b), sv (1 :: (p ++ q)), sv (2 :: b), sv (3 :: b)])] (by kernel_rfl) (by kernel_rfl) (by decide) (Below.refl _ _).drew (fun w w' h g => bt h g) ?_ ?_
      · refine Free.forall_succ (Free.forall_succ (Free.forall_succ (Free.forall_succ (Free.forall_succ (Free.forall_succ (Free.forall_succ (Free.forall_succ (Free.forall_succ (Free.forall_succ (Free.forall_succ (Free.forall_succ (Free.forall_succ (Free.forall_succ (Free.forall_succ (Free.forall_zero) ?_) ?_) ?_) ?_) ?_) ?_) ?_) ?_) ?_) ?_) ?_) ?_) ?_) ?_) ?_
        · exact Free.ob_plain _ rfl rfl fun vals wq hC hd => (by exact Free.d_move rfl (by kernel_rfl) rfl)
        · exact Free.ob_plain _ rfl rfl fun vals wq hC hd => (by exact Free.d_call Tryd.func25 (by kernel_rfl) (by kernel_rfl) rfl rfl (Free.arg1 (Eq.trans (b := vals 0) (by kernel_rfl) (hd 0 (by kernel_rfl)))) ((Q0 wq hC).mono fun e w2 h => (by obtain ⟨A2, k2, he, hr2, h1, h2, hb⟩ := h; exact ⟨_, he, ⟨A2, k2, rfl, hr2, h1, h2⟩, hb⟩)))
        · exact Free.ob_plain _ rfl rfl fun vals wq hC hd => (by obtain ⟨A1, k1, e1, rd1, le1, mx1⟩ := hd 1 (by kernel_rfl); exact Free.d_conv rfl (Eq.trans (b := vals 1) (by kernel_rfl) e1) (run_str (P := Tryd.prog) 22 9 5 Tryd.underlying22 Tryd.underlying5 Tryd.underlying9 A1 _ k1 _ (0 :: b) rd1 (by simp [HR2.out.2.1])) (Below.refl _ _) rfl)
        · exact Free.ob_plain _ rfl rfl fun vals wq hC hd => (by exact Free.d_move rfl (by kernel_rfl) rfl)
        · exact Free.ob_plain _ rfl rfl fun vals wq hC hd => (by exact Free.d_move rfl (by kernel_rfl) rfl)
        · exact Free.ob_plain _ rfl rfl fun vals wq hC hd => (by exact Free.d_call Tryd.func26 (by kernel_rfl) (by kernel_rfl) rfl rfl (Free.arg2 (Eq.trans (b := vals 3) (by kernel_rfl) (hd 3 (by kernel_rfl))) (Eq.trans (b := vals 4) (by kernel_rfl) (hd 4 (by kernel_rfl)))) ((Q1 wq hC).mono fun e w2 h => (by obtain ⟨A2, k2, he, hr2, h1, h2, hb⟩ := h; exact ⟨_, he, ⟨A2, k2, rfl, hr2, h1, h2⟩, hb⟩)))
        · exact Free.ob_plain _ rfl rfl fun vals wq hC hd => (by obtain ⟨A5, k5, e5, rd5, le5, mx5⟩ := hd 5 (by kernel_rfl); exact Free.d_conv rfl (Eq.trans (b := vals 5) (by kernel_rfl) e5) (run_str (P := Tryd.prog) 22 9 5 Tryd.underlying22 Tryd.underlying5 Tryd.underlying9 A5 _ k5 _ (1 :: (p ++ q)) rd5 (by simp [HN.out.2.2.1, HN.out.2.2.2])) (Below.refl _ _) rfl)
        · exact Free.ob_plain _ rfl rfl fun vals wq hC hd => (by exact Free.d_move rfl (by kernel_rfl) rfl)
        · exact Free.ob_plain _ rfl rfl fun vals wq hC hd => (by exact Free.d_call Tryd.func27 (by kernel_rfl) (by kernel_rfl) rfl rfl (Free.arg1 (Eq.trans (b := vals 7) (by kernel_rfl) (hd 7 (by kernel_rfl)))) ((Q2 wq hC).mono fun e w2 h => (by obtain ⟨A2, k2, he, hr2, h1, h2, hb⟩ := h; exact ⟨_, he, ⟨A2, k2, rfl, hr2, h1, h2⟩, hb⟩)))
        · exact Free.ob_plain _ rfl rfl fun vals wq hC hd => (by obtain ⟨A8, k8, e8, rd8, le8, mx8⟩ := hd 8 (by kernel_rfl); exact Free.d_conv rfl (Eq.trans (b := vals 8) (by kernel_rfl) e8) (run_str (P := Tryd.prog) 22 9 5 Tryd.underlying22 Tryd.underlying5 Tryd.underlying9 A8 _ k8 _ (2 :: b) rd8 (by simp [HR2.out.2.1])) (Below.refl _ _) rfl)
        · exact Free.ob_plain _ rfl rfl fun vals wq hC hd => (by exact Free.d_move rfl (by kernel_rfl) rfl)
        · exact Free.ob_plain _ rfl rfl fun vals wq hC hd => (by exact Free.d_call Tryd.func28 (by kernel_rfl) (by kernel_rfl) rfl rfl (Free.arg1 (Eq.trans (b := vals 10) (by kernel_rfl) (hd 10 (by kernel_rfl)))) ((Q3 wq hC).mono fun e w2 h => (by obtain ⟨A2, k2, he, hr2, h1, h2, hb⟩ := h; exact ⟨_, he, ⟨A2, k2, rfl, hr2, h1, h2⟩, hb⟩)))
        · exact Free.ob_plain _ rfl rfl fun vals wq hC hd => (by obtain ⟨A11, k11, e11, rd11, le11, mx11⟩ := hd 11 (by kernel_rfl); exact Free.d_conv rfl (Eq.trans (b := vals 11) (by kernel_rfl) e11) (run_str (P := Tryd.prog) 22 9 5 Tryd.underlying22 Tryd.underlying5 Tryd.underlying9 A11 _ k11 _ (3 :: b) rd11 (by simp [HR2.out.2.1])) (Below.refl _ _) rfl)
        · exact Free.ob_plain _ rfl rfl fun vals wq hC hd => (by exact Free.d_build (w' := wq.alloc (.cells ([sv (0 :: b), sv (1 :: (p ++ q)), sv (2 :: b), sv (3 :: b)] : List Value).toArray 9)) rfl (Free.parts4 (Eq.trans (b := vals 2) (by kernel_rfl) (hd 2 (by kernel_rfl))) (Eq.trans (b := vals 6) (by kernel_rfl) (hd 6 (by kernel_rfl))) (Eq.trans (b := vals 9) (by kernel_rfl) (hd 9 (by kernel_rfl))) (Eq.trans (b := vals 12) (by kernel_rfl) (hd 12 (by kernel_rfl)))) (by go_simp) ((Below.refl _ _).alloc (Nat.le_refl _) _) ⟨_, _, rfl, (rd_new wq [_, _, _, _] _ _).more (by unfold World.alloc; simp), Nat.le_refl _, by rw [maxLen_eq]; omega⟩)
        · exact Free.ob_plain _ rfl rfl fun vals wq hC hd => (by obtain ⟨A13, k13, e13, rd13, le13, mx13⟩ := hd 13 (by kernel_rfl); exact Free.d_assign rfl (Eq.trans (b := vals 13) (by kernel_rfl) e13) ⟨A13, k13, rfl, rd13, le13, mx13⟩)
      · intro vals wq hC hd
        have e0 : vals 0 = (.slice B m k) := hd 0 (by decide)
        obtain ⟨A1, k1, e1, rd1, le1, mx1⟩ := hd 1 (by decide)
        have e2 : vals 2 = (sv (0 :: b)) := hd 2 (by decide)
        have e3 : vals 3 = (sv p) := hd 3 (by decide)
        have e4 : vals 4 = (sv q) := hd 4 (by decide)
        obtain ⟨A5, k5, e5, rd5, le5, mx5⟩ := hd 5 (by decide)
        have e6 : vals 6 = (sv (1 :: (p ++ q))) := hd 6 (by decide)
        have e7 : vals 7 = (.slice B m k) := hd 7 (by decide)
        obtain ⟨A8, k8, e8, rd8, le8, mx8⟩ := hd 8 (by decide)
        have e9 : vals 9 = (sv (2 :: b)) := hd 9 (by decide)
        have e10 : vals 10 = (.slice B m k) := hd 10 (by decide)
        obtain ⟨A11, k11, e11, rd11, le11, mx11⟩ := hd 11 (by decide)
        have e12 : vals 12 = (sv (3 :: b)) := hd 12 (by decide)
        obtain ⟨A13, k13, e13, rd13, le13, mx13⟩ := hd 13 (by decide)
        obtain ⟨A14, k14, e14, rd14, le14, mx14⟩ := hd 14 (by decide)
        simp only [Free.frameOf, List.range, List.range.loop, List.foldl, Free.dstOf, List.getElem?_toArray, List.getElem?_cons_zero, List.getElem?_cons_succ, Option.bind_some, Act.put, List.setIfInBounds_toArray, List.set_cons_zero, List.set_cons_succ, e0, e1, e2, e3, e4, e5, e6, e7, e8, e9, e10, e11, e12, e13, e14]
        refine wpList_nil ?_
        clear hd e0 e1 e2 e3 e4 e5 e6 e7 e8 e9 e10 e11 e12 e13 e14
        have HB2 := Lib.hid (bt HB1.out hC)
        have HY := Lib.hid (And.intro rd14 (And.intro le14 mx14))
        have HX2 := Lib.hid ((HX.out.1.below hC).more hC.size)
        clear hC rd1 rd5 rd8 rd11 rd13 rd14 le1 le5 le8 le11 le13 le14 mx1 mx5 mx8 mx11 mx13 mx14 Q0 Q1 Q2 Q3
        obtain ⟨w2, hw2⟩ : ∃ x, wq = x := ⟨_, rfl⟩
        obtain ⟨AY, hAY⟩ : ∃ x, A14 = x := ⟨_, rfl⟩
        obtain ⟨kY, hkY⟩ : ∃ x, k14 = x := ⟨_, rfl⟩
        rw [hAY, hkY, hw2]
        rw [hAY, hkY, hw2] at HY
        rw [hw2] at HB2 HX2
        clear hw2 hAY hkY
        obtain ⟨bx, ox, rfl, hbx, hcx⟩ := HX2.out (by simp)
        obtain ⟨by', oy, rfl, hby, hcy⟩ := HY.out.1 (by simp)
        have hcx' : ∀ i, i < 4 → w2.cell? ⟨bx, ox + i, none⟩ = some (sv (four a l r i)) := fun i hi => hcx i _ (four_get a l r i hi)
        have hcy' : ∀ i, i < 4 → w2.cell? ⟨by', oy + i, none⟩ = some (sv (four b p q i)) := fun i hi => hcy i _ (four_get b p q i hi)
        have HCX := Lib.hid (And.intro hbx (And.intro hby (And.intro hcx' hcy')))
        clear hcx hcy hcx' hcy' HX2 HY HX hbx hby
        have q1 := run_str (P := Tryd.prog) (w := w2) 22 9 5 Tryd.underlying22 Tryd.underlying5 Tryd.underlying9 A n c _ a (HR.out.1.below' HB2.out (Nat.le_refl _)) HR.out.2.1
        have q2 := run_str (P := Tryd.prog) (w := w2) 22 9 5 Tryd.underlying22 Tryd.underlying5 Tryd.underlying9 B m k _ b (HR2.out.1.below' HB2.out (Nat.le_refl _)) HR2.out.2.1
        have e1 := streq a b
        by_cases hab : a = b
        · rw [decide_eq_true hab] at e1
          have HAB := Lib.hid hab
          clear hab
          go_wp2_with fail
          clear q1 q2 e1
          go_loopw [16] (fun vi wr => ∃ i : Nat, i ≤ 4 ∧ vi = .int .i64 i ∧ Below w2.heap.size w2 wr) (fun vi _ => 4 - (intOf vi).toNat)
          case atStart => exact ⟨0, by omega, rfl, Below.refl _ _⟩
          case round =>
            obtain ⟨i, hi, rfl, hbo⟩ := hrel
            have HBO := Lib.hid hbo
            clear hbo
            obtain ⟨wo, rfl⟩ : ∃ wo : World, wo = wr := ⟨_, rfl⟩
            by_cases hlt : i < 4
            · go_wp2_with fail
              go_loopw [17] (fun vk wr => ∃ kk : Nat, kk ≤ 4 ∧ vk = .int .i64 kk ∧ Below w2.heap.size w2 wr) (fun vk _ => 4 - (intOf vk).toNat)
              case atStart => exact ⟨0, by omega, rfl, HBO.out⟩
              case round =>
                obtain ⟨kk, hkk, rfl, hbr⟩ := hrel
                have HBR := Lib.hid hbr
                clear hbr
                obtain ⟨w3, rfl⟩ : ∃ w3 : World, w3 = wr := ⟨_, rfl⟩
                by_cases hlk : kk < 4
                · have hx : ∀ W, Below w3.heap.size w3 W → W.cell? ⟨bx, ox + i, none⟩ = some (sv (four a l r i)) := fun W hW => ((bt HBR.out hW).cell (p := ⟨bx, ox + i, none⟩) HCX.out.1).trans (HCX.out.2.2.1 i hlt)
                  have hy : ∀ W, Below w3.heap.size w3 W → W.cell? ⟨by', oy + kk, none⟩ = some (sv (four b p q kk)) := fun W hW => ((bt HBR.out hW).cell (p := ⟨by', oy + kk, none⟩) HCX.out.2.1).trans (HCX.out.2.2.2 kk hlk)
                  have HXX := Lib.hid hx
                  have HYY := Lib.hid hy
                  clear hx hy
                  have i0 : (0 : Int) ≤ (i : Int) := by omega
                  have k0 : (0 : Int) ≤ (kk : Int) := by omega
                  have i4 : (i : Int) < 4 := by omega
                  have k4 : (kk : Int) < 4 := by omega
                  by_cases hik : i = kk
                  · by_cases hi1 : i = 1
                    · by_cases hlp : l = p
                      · by_cases hrq : r = q
                        · have b1 : ((i : Int) == (kk : Int)) = true := beq_iff_eq.2 (by omega)
                          have b1' : (i == kk) = true := by simpa using hik
                          have b2 : ((i : Int) == 1) = true := by simpa using (by omega : (i : Int) = 1)
                          have b3 : ((kk : Int) == 1) = true := by simpa using (by omega : (kk : Int) = 1)
                          have s1 := streq l p
                          have s2 := streq r q
                          rw [decide_eq_true hlp] at s1
                          rw [decide_eq_true hrq] at s2
                          have HIK := Lib.hid (And.intro hik hi1)
                          have HLP := Lib.hid hlp
                          clear hik hi1 hlp
                          have HRQ := Lib.hid hrq
                          clear hrq
                          have HS : Hid (decide (four a l r i = four b p q kk) = true) := Lib.hid (by rw [decide_eq_true]; rw [four_one HIK.out.2 (HIK.out.1 ▸ HIK.out.2) (by rw [HN.out.1, HN.out.2.2.1])]; exact ⟨HLP.out, HRQ.out⟩)
                          go_wp2_with fail
                          refine Free.wp_free_l 11 (fun W => Below w3.heap.size w3 W) [Free.kc (.slice (some ⟨bx, ox, none⟩) 4 kX), Free.kc (.int .i64 (i : Int)), Free.kc (.pointer (some ⟨bx, ox + i, none⟩)), Free.kc (sv (four a l r i)), Free.kc (.slice (some ⟨by', oy, none⟩) 4 kY), Free.kc (.int .i64 (kk : Int)), Free.kc (.pointer (some ⟨by', oy + kk, none⟩)), Free.kc (sv (four b p q kk)), Free.kc (.bool true), Free.kc (.bool true), Free.kc (.bool false)] (by kernel_rfl) (by kernel_rfl) (by decide) (Below.refl _ _).drew (fun w w' h g => bt h g) ?_ ?_
                          · refine Free.forall_succ (Free.forall_succ (Free.forall_succ (Free.forall_succ (Free.forall_succ (Free.forall_succ (Free.forall_succ (Free.forall_succ (Free.forall_succ (Free.forall_succ (Free.forall_succ (Free.forall_zero) ?_) ?_) ?_) ?_) ?_) ?_) ?_) ?_) ?_) ?_) ?_
                            · exact Free.ob_plain _ rfl rfl fun vals wq hC hd => (by exact Free.d_move rfl (by kernel_rfl) rfl)
                            · exact Free.ob_plain _ rfl rfl fun vals wq hC hd => (by exact Free.d_move rfl (by kernel_rfl) rfl)
                            · exact Free.ob_plain _ rfl rfl fun vals wq hC hd => (by exact Free.d_indexAddr rfl (Eq.trans (b := vals 0) (by kernel_rfl) (hd 0 (by kernel_rfl))) (Eq.trans (b := vals 1) (by kernel_rfl) (hd 1 (by kernel_rfl))) (run_idx 45 Tryd.underlying45 (by kernel_rfl) _ _ _ _ _ _ (by omega) (by omega)) rfl)
                            · exact Free.ob_plain _ rfl rfl fun vals wq hC hd => (by exact Free.d_load rfl (Eq.trans (b := vals 2) (by kernel_rfl) (hd 2 (by kernel_rfl))) (by have hcc := HXX.out wq hC; go_simp) rfl)
                            · exact Free.ob_plain _ rfl rfl fun vals wq hC hd => (by exact Free.d_move rfl (by kernel_rfl) rfl)
                            · exact Free.ob_plain _ rfl rfl fun vals wq hC hd => (by exact Free.d_move rfl (by kernel_rfl) rfl)
                            · exact Free.ob_plain _ rfl rfl fun vals wq hC hd => (by exact Free.d_indexAddr rfl (Eq.trans (b := vals 4) (by kernel_rfl) (hd 4 (by kernel_rfl))) (Eq.trans (b := vals 5) (by kernel_rfl) (hd 5 (by kernel_rfl))) (run_idx 45 Tryd.underlying45 (by kernel_rfl) _ _ _ _ _ _ (by omega) (by omega)) rfl)
                            · exact Free.ob_plain _ rfl rfl fun vals wq hC hd => (by exact Free.d_load rfl (Eq.trans (b := vals 6) (by kernel_rfl) (hd 6 (by kernel_rfl))) (by have hcc := HYY.out wq hC; go_simp) rfl)
                            · exact Free.ob_plain _ rfl rfl fun vals wq hC hd => (by exact Free.d_bin rfl (Eq.trans (b := vals 3) (by kernel_rfl) (hd 3 (by kernel_rfl))) (Eq.trans (b := vals 7) (by kernel_rfl) (hd 7 (by kernel_rfl))) (by go_simp) (by rw [run_eql_str, HS.out]) rfl)
                            · exact Free.ob_plain _ rfl rfl fun vals wq hC hd => (by exact Free.d_move rfl (by kernel_rfl) rfl)
                            · exact Free.ob_plain _ rfl rfl fun vals wq hC hd => (by exact Free.d_bin rfl (Eq.trans (b := vals 8) (by kernel_rfl) (hd 8 (by kernel_rfl))) (Eq.trans (b := vals 9) (by kernel_rfl) (hd 9 (by kernel_rfl))) (by go_simp) (by go_simp) rfl)
                          · intro vals wq hC hd
                            have e0 : vals 0 = (.slice (some ⟨bx, ox, none⟩) 4 kX) := hd 0 (by decide)
                            have e1 : vals 1 = (.int .i64 (i : Int)) := hd 1 (by decide)
                            have e2 : vals 2 = (.pointer (some ⟨bx, ox + i, none⟩)) := hd 2 (by decide)
                            have e3 : vals 3 = (sv (four a l r i)) := hd 3 (by decide)
                            have e4 : vals 4 = (.slice (some ⟨by', oy, none⟩) 4 kY) := hd 4 (by decide)
                            have e5 : vals 5 = (.int .i64 (kk : Int)) := hd 5 (by decide)
                            have e6 : vals 6 = (.pointer (some ⟨by', oy + kk, none⟩)) := hd 6 (by decide)
                            have e7 : vals 7 = (sv (four b p q kk)) := hd 7 (by decide)
                            have e8 : vals 8 = (.bool true) := hd 8 (by decide)
                            have e9 : vals 9 = (.bool true) := hd 9 (by decide)
                            have e10 : vals 10 = (.bool false) := hd 10 (by decide)
                            simp only [Free.frameOf, List.range, List.range.loop, List.foldl, Free.dstOf, List.getElem?_toArray, List.getElem?_cons_zero, List.getElem?_cons_succ, Option.bind_some, Act.put, List.setIfInBounds_toArray, List.set_cons_zero, List.set_cons_succ, e0, e1, e2, e3, e4, e5, e6, e7, e8, e9, e10]
                            refine wpList_nil ?_
                            clear hd e0 e1 e2 e3 e4 e5 e6 e7 e8 e9 e10
                            have HBQ := Lib.hid (bt HBR.out hC)
                            clear hC
                            go_wp2
                            go_roundw
                            case rel => exact ⟨kk + 1, by omega, by go_num, HBQ.out⟩
                            case measure => simp [intOf]; omega
                        · have b1 : ((i : Int) == (kk : Int)) = true := beq_iff_eq.2 (by omega)
                          have b1' : (i == kk) = true := by simpa using hik
                          have b2 : ((i : Int) == 1) = true := by simpa using (by omega : (i : Int) = 1)
                          have b3 : ((kk : Int) == 1) = true := by simpa using (by omega : (kk : Int) = 1)
                          have s1 := streq l p
                          have s2 := streq r q
                          rw [decide_eq_true hlp] at s1
                          rw [decide_eq_false hrq] at s2
                          have HIK := Lib.hid (And.intro hik hi1)
                          have HLP := Lib.hid hlp
                          clear hik hi1 hlp
                          have HRQ := Lib.hid hrq
                          clear hrq
                          have HS : Hid (decide (four a l r i = four b p q kk) = false) := Lib.hid (by rw [decide_eq_false]; rw [four_one HIK.out.2 (HIK.out.1 ▸ HIK.out.2) (by rw [HN.out.1, HN.out.2.2.1])]; exact fun h => HRQ.out h.2)
                          go_wp2_with fail
                          refine Free.wp_free_l 11 (fun W => Below w3.heap.size w3 W) [Free.kc (.slice (some ⟨bx, ox, none⟩) 4 kX), Free.kc (.int .i64 (i : Int)), Free.kc (.pointer (some ⟨bx, ox + i, none⟩)), Free.kc (sv (four a l r i)), Free.kc (.slice (some ⟨by', oy, none⟩) 4 kY), Free.kc (.int .i64 (kk : Int)), Free.kc (.pointer (some ⟨by', oy + kk, none⟩)), Free.kc (sv (four b p q kk)), Free.kc (.bool false), Free.kc (.bool false), Free.kc (.bool false)] (by kernel_rfl) (by kernel_rfl) (by decide) (Below.refl _ _).drew (fun w w' h g => bt h g) ?_ ?_
                          · refine Free.forall_succ (Free.forall_succ (Free.forall_succ (Free.forall_succ (Free.forall_succ (Free.forall_succ (Free.forall_succ (Free.forall_succ (Free.forall_succ (Free.forall_succ (Free.forall_succ (Free.forall_zero) ?_) ?_) ?_) ?_) ?_) ?_) ?_) ?_) ?_) ?_) ?_
                            · exact Free.ob_plain _ rfl rfl fun vals wq hC hd => (by exact Free.d_move rfl (by kernel_rfl) rfl)
                            · exact Free.ob_plain _ rfl rfl fun vals wq hC hd => (by exact Free.d_move rfl (by kernel_rfl) rfl)
                            · exact Free.ob_plain _ rfl rfl fun vals wq hC hd => (by exact Free.d_indexAddr rfl (Eq.trans (b := vals 0) (by kernel_rfl) (hd 0 (by kernel_rfl))) (Eq.trans (b := vals 1) (by kernel_rfl) (hd 1 (by kernel_rfl))) (run_idx 45 Tryd.underlying45 (by kernel_rfl) _ _ _ _ _ _ (by omega) (by omega)) rfl)
                            · exact Free.ob_plain _ rfl rfl fun vals wq hC hd => (by exact Free.d_load rfl (Eq.trans (b := vals 2) (by kernel_rfl) (hd 2 (by kernel_rfl))) (by have hcc := HXX.out wq hC; go_simp) rfl)
                            · exact Free.ob_plain _ rfl rfl fun vals wq hC hd => (by exact Free.d_move rfl (by kernel_rfl) rfl)
                            · exact Free.ob_plain _ rfl rfl fun vals wq hC hd => (by exact Free.d_move rfl (by kernel_rfl) rfl)
                            · exact Free.ob_plain _ rfl rfl fun vals wq hC hd => (by exact Free.d_indexAddr rfl (Eq.trans (b := vals 4) (by kernel_rfl) (hd 4 (by kernel_rfl))) (Eq.trans (b := vals 5) (by kernel_rfl) (hd 5 (by kernel_rfl))) (run_idx 45 Tryd.underlying45 (by kernel_rfl) _ _ _ _ _ _ (by omega) (by omega)) rfl)
                            · exact Free.ob_plain _ rfl rfl fun vals wq hC hd => (by exact Free.d_load rfl (Eq.trans (b := vals 6) (by kernel_rfl) (hd 6 (by kernel_rfl))) (by have hcc := HYY.out wq hC; go_simp) rfl)
                            · exact Free.ob_plain _ rfl rfl fun vals wq hC hd => (by exact Free.d_bin rfl (Eq.trans (b := vals 3) (by kernel_rfl) (hd 3 (by kernel_rfl))) (Eq.trans (b := vals 7) (by kernel_rfl) (hd 7 (by kernel_rfl))) (by go_simp) (by rw [run_eql_str, HS.out]) rfl)
                            · exact Free.ob_plain _ rfl rfl fun vals wq hC hd => (by exact Free.d_move rfl (by kernel_rfl) rfl)
                            · exact Free.ob_plain _ rfl rfl fun vals wq hC hd => (by exact Free.d_bin rfl (Eq.trans (b := vals 8) (by kernel_rfl) (hd 8 (by kernel_rfl))) (Eq.trans (b := vals 9) (by kernel_rfl) (hd 9 (by kernel_rfl))) (by go_simp) (by go_simp) rfl)
                          · intro vals wq hC hd
                            have e0 : vals 0 = (.slice (some ⟨bx, ox, none⟩) 4 kX) := hd 0 (by decide)
                            have e1 : vals 1 = (.int .i64 (i : Int)) := hd 1 (by decide)
                            have e2 : vals 2 = (.pointer (some ⟨bx, ox + i, none⟩)) := hd 2 (by decide)
                            have e3 : vals 3 = (sv (four a l r i)) := hd 3 (by decide)
                            have e4 : vals 4 = (.slice (some ⟨by', oy, none⟩) 4 kY) := hd 4 (by decide)
                            have e5 : vals 5 = (.int .i64 (kk : Int)) := hd 5 (by decide)
                            have e6 : vals 6 = (.pointer (some ⟨by', oy + kk, none⟩)) := hd 6 (by decide)
                            have e7 : vals 7 = (sv (four b p q kk)) := hd 7 (by decide)
                            have e8 : vals 8 = (.bool false) := hd 8 (by decide)
                            have e9 : vals 9 = (.bool false) := hd 9 (by decide)
                            have e10 : vals 10 = (.bool false) := hd 10 (by decide)
                            simp only [Free.frameOf, List.range, List.range.loop, List.foldl, Free.dstOf, List.getElem?_toArray, List.getElem?_cons_zero, List.getElem?_cons_succ, Option.bind_some, Act.put, List.setIfInBounds_toArray, List.set_cons_zero, List.set_cons_succ, e0, e1, e2, e3, e4, e5, e6, e7, e8, e9, e10]
                            refine wpList_nil ?_
                            clear hd e0 e1 e2 e3 e4 e5 e6 e7 e8 e9 e10
                            have HBQ := Lib.hid (bt HBR.out hC)
                            clear hC
                            go_wp2
                            go_roundw
                            case rel => exact ⟨kk + 1, by omega, by go_num, HBQ.out⟩
                            case measure => simp [intOf]; omega
                      · have b1 : ((i : Int) == (kk : Int)) = true := beq_iff_eq.2 (by omega)
                        have b1' : (i == kk) = true := by simpa using hik
                        have b2 : ((i : Int) == 1) = true := by simpa using (by omega : (i : Int) = 1)
                        have b3 : ((kk : Int) == 1) = true := by simpa using (by omega : (kk : Int) = 1)
                        have s1 := streq l p
                        have s2 := streq r q
                        rw [decide_eq_false hlp] at s1
                        clear s2
                        have HIK := Lib.hid (And.intro hik hi1)
                        have HLP := Lib.hid hlp
                        clear hik hi1 hlp
                        have HS : Hid (decide (four a l r i = four b p q kk) = false) := Lib.hid (by rw [decide_eq_false]; rw [four_one HIK.out.2 (HIK.out.1 ▸ HIK.out.2) (by rw [HN.out.1, HN.out.2.2.1])]; exact fun h => HLP.out h.1)
                        go_wp2_with fail
                        refine Free.wp_free_l 11 (fun W => Below w3.heap.size w3 W) [Free.kc (.slice (some ⟨bx, ox, none⟩) 4 kX), Free.kc (.int .i64 (i : Int)), Free.kc (.pointer (some ⟨bx, ox + i, none⟩)), Free.kc (sv (four a l r i)), Free.kc (.slice (some ⟨by', oy, none⟩) 4 kY), Free.kc (.int .i64 (kk : Int)), Free.kc (.pointer (some ⟨by', oy + kk, none⟩)), Free.kc (sv (four b p q kk)), Free.kc (.bool false), Free.kc (.bool false), Free.kc (.bool false)] (by kernel_rfl) (by kernel_rfl) (by decide) (Below.refl _ _).drew (fun w w' h g => bt h g) ?_ ?_
                        · refine Free.forall_succ (Free.forall_succ (Free.forall_succ (Free.forall_succ (Free.forall_succ (Free.forall_succ (Free.forall_succ (Free.forall_succ (Free.forall_succ (Free.forall_succ (Free.forall_succ (Free.forall_zero) ?_) ?_) ?_) ?_) ?_) ?_) ?_) ?_) ?_) ?_) ?_
                          · exact Free.ob_plain _ rfl rfl fun vals wq hC hd => (by exact Free.d_move rfl (by kernel_rfl) rfl)
                          · exact Free.ob_plain _ rfl rfl fun vals wq hC hd => (by exact Free.d_move rfl (by kernel_rfl) rfl)
                          · exact Free.ob_plain _ rfl rfl fun vals wq hC hd => (by exact Free.d_indexAddr rfl (Eq.trans (b := vals 0) (by kernel_rfl) (hd 0 (by kernel_rfl))) (Eq.trans (b := vals 1) (by kernel_rfl) (hd 1 (by kernel_rfl))) (run_idx 45 Tryd.underlying45 (by kernel_rfl) _ _ _ _ _ _ (by omega) (by omega)) rfl)
                          · exact Free.ob_plain _ rfl rfl fun vals wq hC hd => (by exact Free.d_load rfl (Eq.trans (b := vals 2) (by kernel_rfl) (hd 2 (by kernel_rfl))) (by have hcc := HXX.out wq hC; go_simp) rfl)
                          · exact Free.ob_plain _ rfl rfl fun vals wq hC hd => (by exact Free.d_move rfl (by kernel_rfl) rfl)
                          · exact Free.ob_plain _ rfl rfl fun vals wq hC hd => (by exact Free.d_move rfl (by kernel_rfl) rfl)
                          · exact Free.ob_plain _ rfl rfl fun vals wq hC hd => (by exact Free.d_indexAddr rfl (Eq.trans (b := vals 4) (by kernel_rfl) (hd 4 (by kernel_rfl))) (Eq.trans (b := vals 5) (by kernel_rfl) (hd 5 (by kernel_rfl))) (run_idx 45 Tryd.underlying45 (by kernel_rfl) _ _ _ _ _ _ (by omega) (by omega)) rfl)
                          · exact Free.ob_plain _ rfl rfl fun vals wq hC hd => (by exact Free.d_load rfl (Eq.trans (b := vals 6) (by kernel_rfl) (hd 6 (by kernel_rfl))) (by have hcc := HYY.out wq hC; go_simp) rfl)
                          · exact Free.ob_plain _ rfl rfl fun vals wq hC hd => (by exact Free.d_bin rfl (Eq.trans (b := vals 3) (by kernel_rfl) (hd 3 (by kernel_rfl))) (Eq.trans (b := vals 7) (by kernel_rfl) (hd 7 (by kernel_rfl))) (by go_simp) (by rw [run_eql_str, HS.out]) rfl)
                          · exact Free.ob_plain _ rfl rfl fun vals wq hC hd => (by exact Free.d_move rfl (by kernel_rfl) rfl)
                          · exact Free.ob_plain _ rfl rfl fun vals wq hC hd => (by exact Free.d_bin rfl (Eq.trans (b := vals 8) (by kernel_rfl) (hd 8 (by kernel_rfl))) (Eq.trans (b := vals 9) (by kernel_rfl) (hd 9 (by kernel_rfl))) (by go_simp) (by go_simp) rfl)
                        · intro vals wq hC hd
                          have e0 : vals 0 = (.slice (some ⟨bx, ox, none⟩) 4 kX) := hd 0 (by decide)
                          have e1 : vals 1 = (.int .i64 (i : Int)) := hd 1 (by decide)
                          have e2 : vals 2 = (.pointer (some ⟨bx, ox + i, none⟩)) := hd 2 (by decide)
                          have e3 : vals 3 = (sv (four a l r i)) := hd 3 (by decide)
                          have e4 : vals 4 = (.slice (some ⟨by', oy, none⟩) 4 kY) := hd 4 (by decide)
                          have e5 : vals 5 = (.int .i64 (kk : Int)) := hd 5 (by decide)
                          have e6 : vals 6 = (.pointer (some ⟨by', oy + kk, none⟩)) := hd 6 (by decide)
                          have e7 : vals 7 = (sv (four b p q kk)) := hd 7 (by decide)
                          have e8 : vals 8 = (.bool false) := hd 8 (by decide)
                          have e9 : vals 9 = (.bool false) := hd 9 (by decide)
                          have e10 : vals 10 = (.bool false) := hd 10 (by decide)
                          simp only [Free.frameOf, List.range, List.range.loop, List.foldl, Free.dstOf, List.getElem?_toArray, List.getElem?_cons_zero, List.getElem?_cons_succ, Option.bind_some, Act.put, List.setIfInBounds_toArray, List.set_cons_zero, List.set_cons_succ, e0, e1, e2, e3, e4, e5, e6, e7, e8, e9, e10]
                          refine wpList_nil ?_
                          clear hd e0 e1 e2 e3 e4 e5 e6 e7 e8 e9 e10
                          have HBQ := Lib.hid (bt HBR.out hC)
                          clear hC
                          go_wp2
                          go_roundw
                          case rel => exact ⟨kk + 1, by omega, by go_num, HBQ.out⟩
                          case measure => simp [intOf]; omega
                    · have b1 : ((i : Int) == (kk : Int)) = true := beq_iff_eq.2 (by omega)
                      have b1' : (i == kk) = true := by simpa using hik
                      have b2 : ((i : Int) == 1) = false := by simpa using (by omega : ¬ (i : Int) = 1)
                      have HIK := Lib.hid (And.intro hik hi1)
                      clear hik hi1
                      have HS : Hid (decide (four a l r i = four b p q kk) = true) := Lib.hid (by rw [decide_eq_true]; rw [four_like hlt HIK.out.1 HIK.out.2]; exact HAB.out)
                      go_wp2_with fail
                      refine Free.wp_free_l 11 (fun W => Below w3.heap.size w3 W) [Free.kc (.slice (some ⟨bx, ox, none⟩) 4 kX), Free.kc (.int .i64 (i : Int)), Free.kc (.pointer (some ⟨bx, ox + i, none⟩)), Free.kc (sv (four a l r i)), Free.kc (.slice (some ⟨by', oy, none⟩) 4 kY), Free.kc (.int .i64 (kk : Int)), Free.kc (.pointer (some ⟨by', oy + kk, none⟩)), Free.kc (sv (four b p q kk)), Free.kc (.bool true), Free.kc (.bool true), Free.kc (.bool false)] (by kernel_rfl) (by kernel_rfl) (by decide) (Below.refl _ _).drew (fun w w' h g => bt h g) ?_ ?_
                      · refine Free.forall_succ (Free.forall_succ (Free.forall_succ (Free.forall_succ (Free.forall_succ (Free.forall_succ (Free.forall_succ (Free.forall_succ (Free.forall_succ (Free.forall_succ (Free.forall_succ (Free.forall_zero) ?_) ?_) ?_) ?_) ?_) ?_) ?_) ?_) ?_) ?_) ?_
                        · exact Free.ob_plain _ rfl rfl fun vals wq hC hd => (by exact Free.d_move rfl (by kernel_rfl) rfl)
                        · exact Free.ob_plain _ rfl rfl fun vals wq hC hd => (by exact Free.d_move rfl (by kernel_rfl) rfl)
                        · exact Free.ob_plain _ rfl rfl fun vals wq hC hd => (by exact Free.d_indexAddr rfl (Eq.trans (b := vals 0) (by kernel_rfl) (hd 0 (by kernel_rfl))) (Eq.trans (b := vals 1) (by kernel_rfl) (hd 1 (by kernel_rfl))) (run_idx 45 Tryd.underlying45 (by kernel_rfl) _ _ _ _ _ _ (by omega) (by omega)) rfl)
                        · exact Free.ob_plain _ rfl rfl fun vals wq hC hd => (by exact Free.d_load rfl (Eq.trans (b := vals 2) (by kernel_rfl) (hd 2 (by kernel_rfl))) (by have hcc := HXX.out wq hC; go_simp) rfl)
                        · exact Free.ob_plain _ rfl rfl fun vals wq hC hd => (by exact Free.d_move rfl (by kernel_rfl) rfl)
                        · exact Free.ob_plain _ rfl rfl fun vals wq hC hd => (by exact Free.d_move rfl (by kernel_rfl) rfl)
                        · exact Free.ob_plain _ rfl rfl fun vals wq hC hd => (by exact Free.d_indexAddr rfl (Eq.trans (b := vals 4) (by kernel_rfl) (hd 4 (by kernel_rfl))) (Eq.trans (b := vals 5) (by kernel_rfl) (hd 5 (by kernel_rfl))) (run_idx 45 Tryd.underlying45 (by kernel_rfl) _ _ _ _ _ _ (by omega) (by omega)) rfl)
                        · exact Free.ob_plain _ rfl rfl fun vals wq hC hd => (by exact Free.d_load rfl (Eq.trans (b := vals 6) (by kernel_rfl) (hd 6 (by kernel_rfl))) (by have hcc := HYY.out wq hC; go_simp) rfl)
                        · exact Free.ob_plain _ rfl rfl fun vals wq hC hd => (by exact Free.d_bin rfl (Eq.trans (b := vals 3) (by kernel_rfl) (hd 3 (by kernel_rfl))) (Eq.trans (b := vals 7) (by kernel_rfl) (hd 7 (by kernel_rfl))) (by go_simp) (by rw [run_eql_str, HS.out]) rfl)
                        · exact Free.ob_plain _ rfl rfl fun vals wq hC hd => (by exact Free.d_move rfl (by kernel_rfl) rfl)
                        · exact Free.ob_plain _ rfl rfl fun vals wq hC hd => (by exact Free.d_bin rfl (Eq.trans (b := vals 8) (by kernel_rfl) (hd 8 (by kernel_rfl))) (Eq.trans (b := vals 9) (by kernel_rfl) (hd 9 (by kernel_rfl))) (by go_simp) (by go_simp) rfl)
                      · intro vals wq hC hd
                        have e0 : vals 0 = (.slice (some ⟨bx, ox, none⟩) 4 kX) := hd 0 (by decide)
                        have e1 : vals 1 = (.int .i64 (i : Int)) := hd 1 (by decide)
                        have e2 : vals 2 = (.pointer (some ⟨bx, ox + i, none⟩)) := hd 2 (by decide)
                        have e3 : vals 3 = (sv (four a l r i)) := hd 3 (by decide)
                        have e4 : vals 4 = (.slice (some ⟨by', oy, none⟩) 4 kY) := hd 4 (by decide)
                        have e5 : vals 5 = (.int .i64 (kk : Int)) := hd 5 (by decide)
                        have e6 : vals 6 = (.pointer (some ⟨by', oy + kk, none⟩)) := hd 6 (by decide)
                        have e7 : vals 7 = (sv (four b p q kk)) := hd 7 (by decide)
                        have e8 : vals 8 = (.bool true) := hd 8 (by decide)
                        have e9 : vals 9 = (.bool true) := hd 9 (by decide)
                        have e10 : vals 10 = (.bool false) := hd 10 (by decide)
                        simp only [Free.frameOf, List.range, List.range.loop, List.foldl, Free.dstOf, List.getElem?_toArray, List.getElem?_cons_zero, List.getElem?_cons_succ, Option.bind_some, Act.put, List.setIfInBounds_toArray, List.set_cons_zero, List.set_cons_succ, e0, e1, e2, e3, e4, e5, e6, e7, e8, e9, e10]
                        refine wpList_nil ?_
                        clear hd e0 e1 e2 e3 e4 e5 e6 e7 e8 e9 e10
                        have HBQ := Lib.hid (bt HBR.out hC)
                        clear hC
                        go_wp2
                        go_roundw
                        case rel => exact ⟨kk + 1, by omega, by go_num, HBQ.out⟩
                        case measure => simp [intOf]; omega
                  · by_cases hi1 : i = 1
                    · have b1 : ((i : Int) == (kk : Int)) = false := beq_eq_false_iff_ne.2 (by omega)
                      have b1' : (i == kk) = false := by simpa using hik
                      have b2 : ((i : Int) == 1) = true := by simpa using (by omega : (i : Int) = 1)
                      have b3 : ((kk : Int) == 1) = false := by simpa using (by omega : ¬ (kk : Int) = 1)
                      have HIK := Lib.hid hik
                      have HI1 := Lib.hid hi1
                      clear hik hi1
                      have HS : Hid (decide (four a l r i = four b p q kk) = false) := Lib.hid (by rw [decide_eq_false]; exact four_apart hlt hlk HIK.out)
                      go_wp2_with fail
                      refine Free.wp_free_l 11 (fun W => Below w3.heap.size w3 W) [Free.kc (.slice (some ⟨bx, ox, none⟩) 4 kX), Free.kc (.int .i64 (i : Int)), Free.kc (.pointer (some ⟨bx, ox + i, none⟩)), Free.kc (sv (four a l r i)), Free.kc (.slice (some ⟨by', oy, none⟩) 4 kY), Free.kc (.int .i64 (kk : Int)), Free.kc (.pointer (some ⟨by', oy + kk, none⟩)), Free.kc (sv (four b p q kk)), Free.kc (.bool false), Free.kc (.bool false), Free.kc (.bool false)] (by kernel_rfl) (by kernel_rfl) (by decide) (Below.refl _ _).drew (fun w w' h g => bt h g) ?_ ?_
                      · refine Free.forall_succ (Free.forall_succ (Free.forall_succ (Free.forall_succ (Free.forall_succ (Free.forall_succ (Free.forall_succ (Free.forall_succ (Free.forall_succ (Free.forall_succ (Free.forall_succ (Free.forall_zero) ?_) ?_) ?_) ?_) ?_) ?_) ?_) ?_) ?_) ?_) ?_
                        · exact Free.ob_plain _ rfl rfl fun vals wq hC hd => (by exact Free.d_move rfl (by kernel_rfl) rfl)
                        · exact Free.ob_plain _ rfl rfl fun vals wq hC hd => (by exact Free.d_move rfl (by kernel_rfl) rfl)
                        · exact Free.ob_plain _ rfl rfl fun vals wq hC hd => (by exact Free.d_indexAddr rfl (Eq.trans (b := vals 0) (by kernel_rfl) (hd 0 (by kernel_rfl))) (Eq.trans (b := vals 1) (by kernel_rfl) (hd 1 (by kernel_rfl))) (run_idx 45 Tryd.underlying45 (by kernel_rfl) _ _ _ _ _ _ (by omega) (by omega)) rfl)
                        · exact Free.ob_plain _ rfl rfl fun vals wq hC hd => (by exact Free.d_load rfl (Eq.trans (b := vals 2) (by kernel_rfl) (hd 2 (by kernel_rfl))) (by have hcc := HXX.out wq hC; go_simp) rfl)
                        · exact Free.ob_plain _ rfl rfl fun vals wq hC hd => (by exact Free.d_move rfl (by kernel_rfl) rfl)
                        · exact Free.ob_plain _ rfl rfl fun vals wq hC hd => (by exact Free.d_move rfl (by kernel_rfl) rfl)
                        · exact Free.ob_plain _ rfl rfl fun vals wq hC hd => (by exact Free.d_indexAddr rfl (Eq.trans (b := vals 4) (by kernel_rfl) (hd 4 (by kernel_rfl))) (Eq.trans (b := vals 5) (by kernel_rfl) (hd 5 (by kernel_rfl))) (run_idx 45 Tryd.underlying45 (by kernel_rfl) _ _ _ _ _ _ (by omega) (by omega)) rfl)
                        · exact Free.ob_plain _ rfl rfl fun vals wq hC hd => (by exact Free.d_load rfl (Eq.trans (b := vals 6) (by kernel_rfl) (hd 6 (by kernel_rfl))) (by have hcc := HYY.out wq hC; go_simp) rfl)
                        · exact Free.ob_plain _ rfl rfl fun vals wq hC hd => (by exact Free.d_bin rfl (Eq.trans (b := vals 3) (by kernel_rfl) (hd 3 (by kernel_rfl))) (Eq.trans (b := vals 7) (by kernel_rfl) (hd 7 (by kernel_rfl))) (by go_simp) (by rw [run_eql_str, HS.out]) rfl)
                        · exact Free.ob_plain _ rfl rfl fun vals wq hC hd => (by exact Free.d_move rfl (by kernel_rfl) rfl)
                        · exact Free.ob_plain _ rfl rfl fun vals wq hC hd => (by exact Free.d_bin rfl (Eq.trans (b := vals 8) (by kernel_rfl) (hd 8 (by kernel_rfl))) (Eq.trans (b := vals 9) (by kernel_rfl) (hd 9 (by kernel_rfl))) (by go_simp) (by go_simp) rfl)
                      · intro vals wq hC hd
                        have e0 : vals 0 = (.slice (some ⟨bx, ox, none⟩) 4 kX) := hd 0 (by decide)
                        have e1 : vals 1 = (.int .i64 (i : Int)) := hd 1 (by decide)
                        have e2 : vals 2 = (.pointer (some ⟨bx, ox + i, none⟩)) := hd 2 (by decide)
                        have e3 : vals 3 = (sv (four a l r i)) := hd 3 (by decide)
                        have e4 : vals 4 = (.slice (some ⟨by', oy, none⟩) 4 kY) := hd 4 (by decide)
                        have e5 : vals 5 = (.int .i64 (kk : Int)) := hd 5 (by decide)
                        have e6 : vals 6 = (.pointer (some ⟨by', oy + kk, none⟩)) := hd 6 (by decide)
                        have e7 : vals 7 = (sv (four b p q kk)) := hd 7 (by decide)
                        have e8 : vals 8 = (.bool false) := hd 8 (by decide)
                        have e9 : vals 9 = (.bool false) := hd 9 (by decide)
                        have e10 : vals 10 = (.bool false) := hd 10 (by decide)
                        simp only [Free.frameOf, List.range, List.range.loop, List.foldl, Free.dstOf, List.getElem?_toArray, List.getElem?_cons_zero, List.getElem?_cons_succ, Option.bind_some, Act.put, List.setIfInBounds_toArray, List.set_cons_zero, List.set_cons_succ, e0, e1, e2, e3, e4, e5, e6, e7, e8, e9, e10]
                        refine wpList_nil ?_
                        clear hd e0 e1 e2 e3 e4 e5 e6 e7 e8 e9 e10
                        have HBQ := Lib.hid (bt HBR.out hC)
                        clear hC
                        go_wp2
                        go_roundw
                        case rel => exact ⟨kk + 1, by omega, by go_num, HBQ.out⟩
                        case measure => simp [intOf]; omega
                    · have b1 : ((i : Int) == (kk : Int)) = false := beq_eq_false_iff_ne.2 (by omega)
                      have b1' : (i == kk) = false := by simpa using hik
                      have b2 : ((i : Int) == 1) = false := by simpa using (by omega : ¬ (i : Int) = 1)
                      have HIK := Lib.hid hik
                      have HI1 := Lib.hid hi1
                      clear hik hi1
                      have HS : Hid (decide (four a l r i = four b p q kk) = false) := Lib.hid (by rw [decide_eq_false]; exact four_apart hlt hlk HIK.out)
                      go_wp2_with fail
                      refine Free.wp_free_l 11 (fun W => Below w3.heap.size w3 W) [Free.kc (.slice (some ⟨bx, ox, none⟩) 4 kX), Free.kc (.int .i64 (i : Int)), Free.kc (.pointer (some ⟨bx, ox + i, none⟩)), Free.kc (sv (four a l r i)), Free.kc (.slice (some ⟨by', oy, none⟩) 4 kY), Free.kc (.int .i64 (kk : Int)), Free.kc (.pointer (some ⟨by', oy + kk, none⟩)), Free.kc (sv (four b p q kk)), Free.kc (.bool false), Free.kc (.bool false), Free.kc (.bool false)] (by kernel_rfl) (by kernel_rfl) (by decide) (Below.refl _ _).drew (fun w w' h g => bt h g) ?_ ?_
                      · refine Free.forall_succ (Free.forall_succ (Free.forall_succ (Free.forall_succ (Free.forall_succ (Free.forall_succ (Free.forall_succ (Free.forall_succ (Free.forall_succ (Free.forall_succ (Free.forall_succ (Free.forall_zero) ?_) ?_) ?_) ?_) ?_) ?_) ?_) ?_) ?_) ?_) ?_
                        · exact Free.ob_plain _ rfl rfl fun vals wq hC hd => (by exact Free.d_move rfl (by kernel_rfl) rfl)
                        · exact Free.ob_plain _ rfl rfl fun vals wq hC hd => (by exact Free.d_move rfl (by kernel_rfl) rfl)
                        · exact Free.ob_plain _ rfl rfl fun vals wq hC hd => (by exact Free.d_indexAddr rfl (Eq.trans (b := vals 0) (by kernel_rfl) (hd 0 (by kernel_rfl))) (Eq.trans (b := vals 1) (by kernel_rfl) (hd 1 (by kernel_rfl))) (run_idx 45 Tryd.underlying45 (by kernel_rfl) _ _ _ _ _ _ (by omega) (by omega)) rfl)
                        · exact Free.ob_plain _ rfl rfl fun vals wq hC hd => (by exact Free.d_load rfl (Eq.trans (b := vals 2) (by kernel_rfl) (hd 2 (by kernel_rfl))) (by have hcc := HXX.out wq hC; go_simp) rfl)
                        · exact Free.ob_plain _ rfl rfl fun vals wq hC hd => (by exact Free.d_move rfl (by kernel_rfl) rfl)
                        · exact Free.ob_plain _ rfl rfl fun vals wq hC hd => (by exact Free.d_move rfl (by kernel_rfl) rfl)
                        · exact Free.ob_plain _ rfl rfl fun vals wq hC hd => (by exact Free.d_indexAddr rfl (Eq.trans (b := vals 4) (by kernel_rfl) (hd 4 (by kernel_rfl))) (Eq.trans (b := vals 5) (by kernel_rfl) (hd 5 (by kernel_rfl))) (run_idx 45 Tryd.underlying45 (by kernel_rfl) _ _ _ _ _ _ (by omega) (by omega)) rfl)
                        · exact Free.ob_plain _ rfl rfl fun vals wq hC hd => (by exact Free.d_load rfl (Eq.trans (b := vals 6) (by kernel_rfl) (hd 6 (by kernel_rfl))) (by have hcc := HYY.out wq hC; go_simp) rfl)
                        · exact Free.ob_plain _ rfl rfl fun vals wq hC hd => (by exact Free.d_bin rfl (Eq.trans (b := vals 3) (by kernel_rfl) (hd 3 (by kernel_rfl))) (Eq.trans (b := vals 7) (by kernel_rfl) (hd 7 (by kernel_rfl))) (by go_simp) (by rw [run_eql_str, HS.out]) rfl)
                        · exact Free.ob_plain _ rfl rfl fun vals wq hC hd => (by exact Free.d_move rfl (by kernel_rfl) rfl)
                        · exact Free.ob_plain _ rfl rfl fun vals wq hC hd => (by exact Free.d_bin rfl (Eq.trans (b := vals 8) (by kernel_rfl) (hd 8 (by kernel_rfl))) (Eq.trans (b := vals 9) (by kernel_rfl) (hd 9 (by kernel_rfl))) (by go_simp) (by go_simp) rfl)
                      · intro vals wq hC hd
                        have e0 : vals 0 = (.slice (some ⟨bx, ox, none⟩) 4 kX) := hd 0 (by decide)
                        have e1 : vals 1 = (.int .i64 (i : Int)) := hd 1 (by decide)
                        have e2 : vals 2 = (.pointer (some ⟨bx, ox + i, none⟩)) := hd 2 (by decide)
                        have e3 : vals 3 = (sv (four a l r i)) := hd 3 (by decide)
                        have e4 : vals 4 = (.slice (some ⟨by', oy, none⟩) 4 kY) := hd 4 (by decide)
                        have e5 : vals 5 = (.int .i64 (kk : Int)) := hd 5 (by decide)
                        have e6 : vals 6 = (.pointer (some ⟨by', oy + kk, none⟩)) := hd 6 (by decide)
                        have e7 : vals 7 = (sv (four b p q kk)) := hd 7 (by decide)
                        have e8 : vals 8 = (.bool false) := hd 8 (by decide)
                        have e9 : vals 9 = (.bool false) := hd 9 (by decide)
                        have e10 : vals 10 = (.bool false) := hd 10 (by decide)
                        simp only [Free.frameOf, List.range, List.range.loop, List.foldl, Free.dstOf, List.getElem?_toArray, List.getElem?_cons_zero, List.getElem?_cons_succ, Option.bind_some, Act.put, List.setIfInBounds_toArray, List.set_cons_zero, List.set_cons_succ, e0, e1, e2, e3, e4, e5, e6, e7, e8, e9, e10]
                        refine wpList_nil ?_
                        clear hd e0 e1 e2 e3 e4 e5 e6 e7 e8 e9 e10
                        have HBQ := Lib.hid (bt HBR.out hC)
                        clear hC
                        go_wp2
                        go_roundw
                        case rel => exact ⟨kk + 1, by omega, by go_num, HBQ.out⟩
                        case measure => simp [intOf]; omega
                · have hk4 : ¬ ((kk : Int) < 4) := by omega
                  go_wp2
                  go_roundw
                  case rel => exact ⟨i + 1, by omega, by go_num, HBR.out⟩
                  case measure => simp [intOf]; omega
            · have hi4 : ¬ ((i : Int) < 4) := by omega
              go_wp2_with fail
              refine (knows3_any _ (HT.out.below (bt HB2.out HBO.out))).mono ?_
              rintro e wz ⟨rfl, hbz⟩
              have HBZ := Lib.hid (bt (bt HB2.out HBO.out) hbz)
              clear hbz
              go_wp2
              go_ret
              exact ⟨rfl, HBZ.out⟩
        · rw [decide_eq_false hab] at e1
          have HAB := Lib.hid hab
          clear hab
          go_wp2_with fail
          clear q1 q2 e1
          go_loopw [16] (fun vi wr => ∃ i : Nat, i ≤ 4 ∧ vi = .int .i64 i ∧ Below w2.heap.size w2 wr) (fun vi _ => 4 - (intOf vi).toNat)
          case atStart => exact ⟨0, by omega, rfl, Below.refl _ _⟩
          case round =>
            obtain ⟨i, hi, rfl, hbo⟩ := hrel
            have HBO := Lib.hid hbo
            clear hbo
            obtain ⟨wo, rfl⟩ : ∃ wo : World, wo = wr := ⟨_, rfl⟩
            by_cases hlt : i < 4
            · go_wp2_with fail
              go_loopw [17] (fun vk wr => ∃ kk : Nat, kk ≤ 4 ∧ vk = .int .i64 kk ∧ Below w2.heap.size w2 wr) (fun vk _ => 4 - (intOf vk).toNat)
              case atStart => exact ⟨0, by omega, rfl, HBO.out⟩
              case round =>
                obtain ⟨kk, hkk, rfl, hbr⟩ := hrel
                have HBR := Lib.hid hbr
                clear hbr
                obtain ⟨w3, rfl⟩ : ∃ w3 : World, w3 = wr := ⟨_, rfl⟩
                by_cases hlk : kk < 4
                · have hx : ∀ W, Below w3.heap.size w3 W → W.cell? ⟨bx, ox + i, none⟩ = some (sv (four a l r i)) := fun W hW => ((bt HBR.out hW).cell (p := ⟨bx, ox + i, none⟩) HCX.out.1).trans (HCX.out.2.2.1 i hlt)
                  have hy : ∀ W, Below w3.heap.size w3 W → W.cell? ⟨by', oy + kk, none⟩ = some (sv (four b p q kk)) := fun W hW => ((bt HBR.out hW).cell (p := ⟨by', oy + kk, none⟩) HCX.out.2.1).trans (HCX.out.2.2.2 kk hlk)
                  have HXX := Lib.hid hx
                  have HYY := Lib.hid hy
                  clear hx hy
                  have i0 : (0 : Int) ≤ (i : Int) := by omega
                  have k0 : (0 : Int) ≤ (kk : Int) := by omega
                  have i4 : (i : Int) < 4 := by omega
                  have k4 : (kk : Int) < 4 := by omega
                  by_cases hik : i = kk
                  · by_cases hi1 : i = 1
                    · by_cases hlp : l = p
                      · by_cases hrq : r = q
                        · have b1 : ((i : Int) == (kk : Int)) = true := beq_iff_eq.2 (by omega)
                          have b1' : (i == kk) = true := by simpa using hik
                          have b2 : ((i : Int) == 1) = true := by simpa using (by omega : (i : Int) = 1)
                          have b3 : ((kk : Int) == 1) = true := by simpa using (by omega : (kk : Int) = 1)
                          have s1 := streq l p
                          have s2 := streq r q
                          rw [decide_eq_true hlp] at s1
                          rw [decide_eq_true hrq] at s2
                          have HIK := Lib.hid (And.intro hik hi1)
                          have HLP := Lib.hid hlp
                          clear hik hi1 hlp
                          have HRQ := Lib.hid hrq
                          clear hrq
                          have HS : Hid (decide (four a l r i = four b p q kk) = true) := Lib.hid (by rw [decide_eq_true]; rw [four_one HIK.out.2 (HIK.out.1 ▸ HIK.out.2) (by rw [HN.out.1, HN.out.2.2.1])]; exact ⟨HLP.out, HRQ.out⟩)
                          go_wp2_with fail
                          refine Free.wp_free_l 11 (fun W => Below w3.heap.size w3 W) [Free.kc (.slice (some ⟨bx, ox, none⟩) 4 kX), Free.kc (.int .i64 (i : Int)), Free.kc (.pointer (some ⟨bx, ox + i, none⟩)), Free.kc (sv (four a l r i)), Free.kc (.slice (some ⟨by', oy, none⟩) 4 kY), Free.kc (.int .i64 (kk : Int)), Free.kc (.pointer (some ⟨by', oy + kk, none⟩)), Free.kc (sv (four b p q kk)), Free.kc (.bool true), Free.kc (.bool true), Free.kc (.bool false)] (by kernel_rfl) (by kernel_rfl) (by decide) (Below.refl _ _).drew (fun w w' h g => bt h g) ?_ ?_
                          · refine Free.forall_succ (Free.forall_succ (Free.forall_succ (Free.forall_succ (Free.forall_succ (Free.forall_succ (Free.forall_succ (Free.forall_succ (Free.forall_succ (Free.forall_succ (Free.forall_succ (Free.forall_zero) ?_) ?_) ?_) ?_) ?_) ?_) ?_) ?_) ?_) ?_) ?_
                            · exact Free.ob_plain _ rfl rfl fun vals wq hC hd => (by exact Free.d_move rfl (by kernel_rfl) rfl)
                            · exact Free.ob_plain _ rfl rfl fun vals wq hC hd => (by exact Free.d_move rfl (by kernel_rfl) rfl)
                            · exact Free.ob_plain _ rfl rfl fun vals wq hC hd => (by exact Free.d_indexAddr rfl (Eq.trans (b := vals 0) (by kernel_rfl) (hd 0 (by kernel_rfl))) (Eq.trans (b := vals 1) (by kernel_rfl) (hd 1 (by kernel_rfl))) (run_idx 45 Tryd.underlying45 (by kernel_rfl) _ _ _ _ _ _ (by omega) (by omega)) rfl)
                            · exact Free.ob_plain _ rfl rfl fun vals wq hC hd => (by exact Free.d_load rfl (Eq.trans (b := vals 2) (by kernel_rfl) (hd 2 (by kernel_rfl))) (by have hcc := HXX.out wq hC; go_simp) rfl)
                            · exact Free.ob_plain _ rfl rfl fun vals wq hC hd => (by exact Free.d_move rfl (by kernel_rfl) rfl)
                            · exact Free.ob_plain _ rfl rfl fun vals wq hC hd => (by exact Free.d_move rfl (by kernel_rfl) rfl)
                            · exact Free.ob_plain _ rfl rfl fun vals wq hC hd => (by exact Free.d_indexAddr rfl (Eq.trans (b := vals 4) (by kernel_rfl) (hd 4 (by kernel_rfl))) (Eq.trans (b := vals 5) (by kernel_rfl) (hd 5 (by kernel_rfl))) (run_idx 45 Tryd.underlying45 (by kernel_rfl) _ _ _ _ _ _ (by omega) (by omega)) rfl)
                            · exact Free.ob_plain _ rfl rfl fun vals wq hC hd => (by exact Free.d_load rfl (Eq.trans (b := vals 6) (by kernel_rfl) (hd 6 (by kernel_rfl))) (by have hcc := HYY.out wq hC; go_simp) rfl)
                            · exact Free.ob_plain _ rfl rfl fun vals wq hC hd => (by exact Free.d_bin rfl (Eq.trans (b := vals 3) (by kernel_rfl) (hd 3 (by kernel_rfl))) (Eq.trans (b := vals 7) (by kernel_rfl) (hd 7 (by kernel_rfl))) (by go_simp) (by rw [run_eql_str, HS.out]) rfl)
                            · exact Free.ob_plain _ rfl rfl fun vals wq hC hd => (by exact Free.d_move rfl (by kernel_rfl) rfl)
                            · exact Free.ob_plain _ rfl rfl fun vals wq hC hd => (by exact Free.d_bin rfl (Eq.trans (b := vals 8) (by kernel_rfl) (hd 8 (by kernel_rfl))) (Eq.trans (b := vals 9) (by kernel_rfl) (hd 9 (by kernel_rfl))) (by go_simp) (by go_simp) rfl)
                          · intro vals wq hC hd
                            have e0 : vals 0 = (.slice (some ⟨bx, ox, none⟩) 4 kX) := hd 0 (by decide)
                            have e1 : vals 1 = (.int .i64 (i : Int)) := hd 1 (by decide)
                            have e2 : vals 2 = (.pointer (some ⟨bx, ox + i, none⟩)) := hd 2 (by decide)
                            have e3 : vals 3 = (sv (four a l r i)) := hd 3 (by decide)
                            have e4 : vals 4 = (.slice (some ⟨by', oy, none⟩) 4 kY) := hd 4 (by decide)
                            have e5 : vals 5 = (.int .i64 (kk : Int)) := hd 5 (by decide)
                            have e6 : vals 6 = (.pointer (some ⟨by', oy + kk, none⟩)) := hd 6 (by decide)
                            have e7 : vals 7 = (sv (four b p q kk)) := hd 7 (by decide)
                            have e8 : vals 8 = (.bool true) := hd 8 (by decide)
                            have e9 : vals 9 = (.bool true) := hd 9 (by decide)
                            have e10 : vals 10 = (.bool false) := hd 10 (by decide)
                            simp only [Free.frameOf, List.range, List.range.loop, List.foldl, Free.dstOf, List.getElem?_toArray, List.getElem?_cons_zero, List.getElem?_cons_succ, Option.bind_some, Act.put, List.setIfInBounds_toArray, List.set_cons_zero, List.set_cons_succ, e0, e1, e2, e3, e4, e5, e6, e7, e8, e9, e10]
                            refine wpList_nil ?_
                            clear hd e0 e1 e2 e3 e4 e5 e6 e7 e8 e9 e10
                            have HBQ := Lib.hid (bt HBR.out hC)
                            clear hC
                            go_wp2
                            go_roundw
                            case rel => exact ⟨kk + 1, by omega, by go_num, HBQ.out⟩
                            case measure => simp [intOf]; omega
                        · have b1 : ((i : Int) == (kk : Int)) = true := beq_iff_eq.2 (by omega)
                          have b1' : (i == kk) = true := by simpa using hik
                          have b2 : ((i : Int) == 1) = true := by simpa using (by omega : (i : Int) = 1)
                          have b3 : ((kk : Int) == 1) = true := by simpa using (by omega : (kk : Int) = 1)
                          have s1 := streq l p
                          have s2 := streq r q
                          rw [decide_eq_true hlp] at s1
                          rw [decide_eq_false hrq] at s2
                          have HIK := Lib.hid (And.intro hik hi1)
                          have HLP := Lib.hid hlp
                          clear hik hi1 hlp
                          have HRQ := Lib.hid hrq
                          clear hrq
                          have HS : Hid (decide (four a l r i = four b p q kk) = false) := Lib.hid (by rw [decide_eq_false]; rw [four_one HIK.out.2 (HIK.out.1 ▸ HIK.out.2) (by rw [HN.out.1, HN.out.2.2.1])]; exact fun h => HRQ.out h.2)
                          go_wp2_with fail
                          refine Free.wp_free_l 11 (fun W => Below w3.heap.size w3 W) [Free.kc (.slice (some ⟨bx, ox, none⟩) 4 kX), Free.kc (.int .i64 (i : Int)), Free.kc (.pointer (some ⟨bx, ox + i, none⟩)), Free.kc (sv (four a l r i)), Free.kc (.slice (some ⟨by', oy, none⟩) 4 kY), Free.kc (.int .i64 (kk : Int)), Free.kc (.pointer (some ⟨by', oy + kk, none⟩)), Free.kc (sv (four b p q kk)), Free.kc (.bool false), Free.kc (.bool false), Free.kc (.bool false)] (by kernel_rfl) (by kernel_rfl) (by decide) (Below.refl _ _).drew (fun w w' h g => bt h g) ?_ ?_
                          · refine Free.forall_succ (Free.forall_succ (Free.forall_succ (Free.forall_succ (Free.forall_succ (Free.forall_succ (Free.forall_succ (Free.forall_succ (Free.forall_succ (Free.forall_succ (Free.forall_succ (Free.forall_zero) ?_) ?_) ?_) ?_) ?_) ?_) ?_) ?_) ?_) ?_) ?_
                            · exact Free.ob_plain _ rfl rfl fun vals wq hC hd => (by exact Free.d_move rfl (by kernel_rfl) rfl)
                            · exact Free.ob_plain _ rfl rfl fun vals wq hC hd => (by exact Free.d_move rfl (by kernel_rfl) rfl)
                            · exact Free.ob_plain _ rfl rfl fun vals wq hC hd => (by exact Free.d_indexAddr rfl (Eq.trans (b := vals 0) (by kernel_rfl) (hd 0 (by kernel_rfl))) (Eq.trans (b := vals 1) (by kernel_rfl) (hd 1 (by kernel_rfl))) (run_idx 45 Tryd.underlying45 (by kernel_rfl) _ _ _ _ _ _ (by omega) (by omega)) rfl)
                            · exact Free.ob_plain _ rfl rfl fun vals wq hC hd => (by exact Free.d_load rfl (Eq.trans (b := vals 2) (by kernel_rfl) (hd 2 (by kernel_rfl))) (by have hcc := HXX.out wq hC; go_simp) rfl)
                            · exact Free.ob_plain _ rfl rfl fun vals wq hC hd => (by exact Free.d_move rfl (by kernel_rfl) rfl)
                            · exact Free.ob_plain _ rfl rfl fun vals wq hC hd => (by exact Free.d_move rfl (by kernel_rfl) rfl)
                            · exact Free.ob_plain _ rfl rfl fun vals wq hC hd => (by exact Free.d_indexAddr rfl (Eq.trans (b := vals 4) (by kernel_rfl) (hd 4 (by kernel_rfl))) (Eq.trans (b := vals 5) (by kernel_rfl) (hd 5 (by kernel_rfl))) (run_idx 45 Tryd.underlying45 (by kernel_rfl) _ _ _ _ _ _ (by omega) (by omega)) rfl)
                            · exact Free.ob_plain _ rfl rfl fun vals wq hC hd => (by exact Free.d_load rfl (Eq.trans (b := vals 6) (by kernel_rfl) (hd 6 (by kernel_rfl))) (by have hcc := HYY.out wq hC; go_simp) rfl)
                            · exact Free.ob_plain _ rfl rfl fun vals wq hC hd => (by exact Free.d_bin rfl (Eq.trans (b := vals 3) (by kernel_rfl) (hd 3 (by kernel_rfl))) (Eq.trans (b := vals 7) (by kernel_rfl) (hd 7 (by kernel_rfl))) (by go_simp) (by rw [run_eql_str, HS.out]) rfl)
                            · exact Free.ob_plain _ rfl rfl fun vals wq hC hd => (by exact Free.d_move rfl (by kernel_rfl) rfl)
                            · exact Free.ob_plain _ rfl rfl fun vals wq hC hd => (by exact Free.d_bin rfl (Eq.trans (b := vals 8) (by kernel_rfl) (hd 8 (by kernel_rfl))) (Eq.trans (b := vals 9) (by kernel_rfl) (hd 9 (by kernel_rfl))) (by go_simp) (by go_simp) rfl)
                          · intro vals wq hC hd
                            have e0 : vals 0 = (.slice (some ⟨bx, ox, none⟩) 4 kX) := hd 0 (by decide)
                            have e1 : vals 1 = (.int .i64 (i : Int)) := hd 1 (by decide)
                            have e2 : vals 2 = (.pointer (some ⟨bx, ox + i, none⟩)) := hd 2 (by decide)
                            have e3 : vals 3 = (sv (four a l r i)) := hd 3 (by decide)
                            have e4 : vals 4 = (.slice (some ⟨by', oy, none⟩) 4 kY) := hd 4 (by decide)
                            have e5 : vals 5 = (.int .i64 (kk : Int)) := hd 5 (by decide)
                            have e6 : vals 6 = (.pointer (some ⟨by', oy + kk, none⟩)) := hd 6 (by decide)
                            have e7 : vals 7 = (sv (four b p q kk)) := hd 7 (by decide)
                            have e8 : vals 8 = (.bool false) := hd 8 (by decide)
                            have e9 : vals 9 = (.bool false) := hd 9 (by decide)
                            have e10 : vals 10 = (.bool false) := hd 10 (by decide)
                            simp only [Free.frameOf, List.range, List.range.loop, List.foldl, Free.dstOf, List.getElem?_toArray, List.getElem?_cons_zero, List.getElem?_cons_succ, Option.bind_some, Act.put, List.setIfInBounds_toArray, List.set_cons_zero, List.set_cons_succ, e0, e1, e2, e3, e4, e5, e6, e7, e8, e9, e10]
                            refine wpList_nil ?_
                            clear hd e0 e1 e2 e3 e4 e5 e6 e7 e8 e9 e10
                            have HBQ := Lib.hid (bt HBR.out hC)
                            clear hC
                            go_wp2
                            go_roundw
                            case rel => exact ⟨kk + 1, by omega, by go_num, HBQ.out⟩
                            case measure => simp [intOf]; omega
                      · have b1 : ((i : Int) == (kk : Int)) = true := beq_iff_eq.2 (by omega)
                        have b1' : (i == kk) = true := by simpa using hik
                        have b2 : ((i : Int) == 1) = true := by simpa using (by omega : (i : Int) = 1)
                        have b3 : ((kk : Int) == 1) = true := by simpa using (by omega : (kk : Int) = 1)
                        have s1 := streq l p
                        have s2 := streq r q
                        rw [decide_eq_false hlp] at s1
                        clear s2
                        have HIK := Lib.hid (And.intro hik hi1)
                        have HLP := Lib.hid hlp
                        clear hik hi1 hlp
                        have HS : Hid (decide (four a l r i = four b p q kk) = false) := Lib.hid (by rw [decide_eq_false]; rw [four_one HIK.out.2 (HIK.out.1 ▸ HIK.out.2) (by rw [HN.out.1, HN.out.2.2.1])]; exact fun h => HLP.out h.1)
                        go_wp2_with fail
                        refine Free.wp_free_l 11 (fun W => Below w3.heap.size w3 W) [Free.kc (.slice (some ⟨bx, ox, none⟩) 4 kX), Free.kc (.int .i64 (i : Int)), Free.kc (.pointer (some ⟨bx, ox + i, none⟩)), Free.kc (sv (four a l r i)), Free.kc (.slice (some ⟨by', oy, none⟩) 4 kY), Free.kc (.int .i64 (kk : Int)), Free.kc (.pointer (some ⟨by', oy + kk, none⟩)), Free.kc (sv (four b p q kk)), Free.kc (.bool false), Free.kc (.bool false), Free.kc (.bool false)] (by kernel_rfl) (by kernel_rfl) (by decide) (Below.refl _ _).drew (fun w w' h g => bt h g) ?_ ?_
                        · refine Free.forall_succ (Free.forall_succ (Free.forall_succ (Free.forall_succ (Free.forall_succ (Free.forall_succ (Free.forall_succ (Free.forall_succ (Free.forall_succ (Free.forall_succ (Free.forall_succ (Free.forall_zero) ?_) ?_) ?_) ?_) ?_) ?_) ?_) ?_) ?_) ?_) ?_
                          · exact Free.ob_plain _ rfl rfl fun vals wq hC hd => (by exact Free.d_move rfl (by kernel_rfl) rfl)
                          · exact Free.ob_plain _ rfl rfl fun vals wq hC hd => (by exact Free.d_move rfl (by kernel_rfl) rfl)
                          · exact Free.ob_plain _ rfl rfl fun vals wq hC hd => (by exact Free.d_indexAddr rfl (Eq.trans (b := vals 0) (by kernel_rfl) (hd 0 (by kernel_rfl))) (Eq.trans (b := vals 1) (by kernel_rfl) (hd 1 (by kernel_rfl))) (run_idx 45 Tryd.underlying45 (by kernel_rfl) _ _ _ _ _ _ (by omega) (by omega)) rfl)
                          · exact Free.ob_plain _ rfl rfl fun vals wq hC hd => (by exact Free.d_load rfl (Eq.trans (b := vals 2) (by kernel_rfl) (hd 2 (by kernel_rfl))) (by have hcc := HXX.out wq hC; go_simp) rfl)
                          · exact Free.ob_plain _ rfl rfl fun vals wq hC hd => (by exact Free.d_move rfl (by kernel_rfl) rfl)
                          · exact Free.ob_plain _ rfl rfl fun vals wq hC hd => (by exact Free.d_move rfl (by kernel_rfl) rfl)
                          · exact Free.ob_plain _ rfl rfl fun vals wq hC hd => (by exact Free.d_indexAddr rfl (Eq.trans (b := vals 4) (by kernel_rfl) (hd 4 (by kernel_rfl))) (Eq.trans (b := vals 5) (by kernel_rfl) (hd 5 (by kernel_rfl))) (run_idx 45 Tryd.underlying45 (by kernel_rfl) _ _ _ _ _ _ (by omega) (by omega)) rfl)
                          · exact Free.ob_plain _ rfl rfl fun vals wq hC hd => (by exact Free.d_load rfl (Eq.trans (b := vals 6) (by kernel_rfl) (hd 6 (by kernel_rfl))) (by have hcc := HYY.out wq hC; go_simp) rfl)
                          · exact Free.ob_plain _ rfl rfl fun vals wq hC hd => (by exact Free.d_bin rfl (Eq.trans (b := vals 3) (by kernel_rfl) (hd 3 (by kernel_rfl))) (Eq.trans (b := vals 7) (by kernel_rfl) (hd 7 (by kernel_rfl))) (by go_simp) (by rw [run_eql_str, HS.out]) rfl)
                          · exact Free.ob_plain _ rfl rfl fun vals wq hC hd => (by exact Free.d_move rfl (by kernel_rfl) rfl)
                          · exact Free.ob_plain _ rfl rfl fun vals wq hC hd => (by exact Free.d_bin rfl (Eq.trans (b := vals 8) (by kernel_rfl) (hd 8 (by kernel_rfl))) (Eq.trans (b := vals 9) (by kernel_rfl) (hd 9 (by kernel_rfl))) (by go_simp) (by go_simp) rfl)
                        · intro vals wq hC hd
                          have e0 : vals 0 = (.slice (some ⟨bx, ox, none⟩) 4 kX) := hd 0 (by decide)
                          have e1 : vals 1 = (.int .i64 (i : Int)) := hd 1 (by decide)
                          have e2 : vals 2 = (.pointer (some ⟨bx, ox + i, none⟩)) := hd 2 (by decide)
                          have e3 : vals 3 = (sv (four a l r i)) := hd 3 (by decide)
                          have e4 : vals 4 = (.slice (some ⟨by', oy, none⟩) 4 kY) := hd 4 (by decide)
                          have e5 : vals 5 = (.int .i64 (kk : Int)) := hd 5 (by decide)
                          have e6 : vals 6 = (.pointer (some ⟨by', oy + kk, none⟩)) := hd 6 (by decide)
                          have e7 : vals 7 = (sv (four b p q kk)) := hd 7 (by decide)
                          have e8 : vals 8 = (.bool false) := hd 8 (by decide)
                          have e9 : vals 9 = (.bool false) := hd 9 (by decide)
                          have e10 : vals 10 = (.bool false) := hd 10 (by decide)
                          simp only [Free.frameOf, List.range, List.range.loop, List.foldl, Free.dstOf, List.getElem?_toArray, List.getElem?_cons_zero, List.getElem?_cons_succ, Option.bind_some, Act.put, List.setIfInBounds_toArray, List.set_cons_zero, List.set_cons_succ, e0, e1, e2, e3, e4, e5, e6, e7, e8, e9, e10]
                          refine wpList_nil ?_
                          clear hd e0 e1 e2 e3 e4 e5 e6 e7 e8 e9 e10
                          have HBQ := Lib.hid (bt HBR.out hC)
                          clear hC
                          go_wp2
                          go_roundw
                          case rel => exact ⟨kk + 1, by omega, by go_num, HBQ.out⟩
                          case measure => simp [intOf]; omega
                    · have b1 : ((i : Int) == (kk : Int)) = true := beq_iff_eq.2 (by omega)
                      have b1' : (i == kk) = true := by simpa using hik
                      have b2 : ((i : Int) == 1) = false := by simpa using (by omega : ¬ (i : Int) = 1)
                      have HIK := Lib.hid (And.intro hik hi1)
                      clear hik hi1
                      have HS : Hid (decide (four a l r i = four b p q kk) = false) := Lib.hid (by rw [decide_eq_false]; rw [four_like hlt HIK.out.1 HIK.out.2]; exact HAB.out)
                      go_wp2_with fail
                      refine Free.wp_free_l 11 (fun W => Below w3.heap.size w3 W) [Free.kc (.slice (some ⟨bx, ox, none⟩) 4 kX), Free.kc (.int .i64 (i : Int)), Free.kc (.pointer (some ⟨bx, ox + i, none⟩)), Free.kc (sv (four a l r i)), Free.kc (.slice (some ⟨by', oy, none⟩) 4 kY), Free.kc (.int .i64 (kk : Int)), Free.kc (.pointer (some ⟨by', oy + kk, none⟩)), Free.kc (sv (four b p q kk)), Free.kc (.bool false), Free.kc (.bool false), Free.kc (.bool false)] (by kernel_rfl) (by kernel_rfl) (by decide) (Below.refl _ _).drew (fun w w' h g => bt h g) ?_ ?_
                      · refine Free.forall_succ (Free.forall_succ (Free.forall_succ (Free.forall_succ (Free.forall_succ (Free.forall_succ (Free.forall_succ (Free.forall_succ (Free.forall_succ (Free.forall_succ (Free.forall_succ (Free.forall_zero) ?_) ?_) ?_) ?_) ?_) ?_) ?_) ?_) ?_) ?_) ?_
                        · exact Free.ob_plain _ rfl rfl fun vals wq hC hd => (by exact Free.d_move rfl (by kernel_rfl) rfl)
                        · exact Free.ob_plain _ rfl rfl fun vals wq hC hd => (by exact Free.d_move rfl (by kernel_rfl) rfl)
                        · exact Free.ob_plain _ rfl rfl fun vals wq hC hd => (by exact Free.d_indexAddr rfl (Eq.trans (b := vals 0) (by kernel_rfl) (hd 0 (by kernel_rfl))) (Eq.trans (b := vals 1) (by kernel_rfl) (hd 1 (by kernel_rfl))) (run_idx 45 Tryd.underlying45 (by kernel_rfl) _ _ _ _ _ _ (by omega) (by omega)) rfl)
                        · exact Free.ob_plain _ rfl rfl fun vals wq hC hd => (by exact Free.d_load rfl (Eq.trans (b := vals 2) (by kernel_rfl) (hd 2 (by kernel_rfl))) (by have hcc := HXX.out wq hC; go_simp) rfl)
                        · exact Free.ob_plain _ rfl rfl fun vals wq hC hd => (by exact Free.d_move rfl (by kernel_rfl) rfl)
                        · exact Free.ob_plain _ rfl rfl fun vals wq hC hd => (by exact Free.d_move rfl (by kernel_rfl) rfl)
                        · exact Free.ob_plain _ rfl rfl fun vals wq hC hd => (by exact Free.d_indexAddr rfl (Eq.trans (b := vals 4) (by kernel_rfl) (hd 4 (by kernel_rfl))) (Eq.trans (b := vals 5) (by kernel_rfl) (hd 5 (by kernel_rfl))) (run_idx 45 Tryd.underlying45 (by kernel_rfl) _ _ _ _ _ _ (by omega) (by omega)) rfl)
                        · exact Free.ob_plain _ rfl rfl fun vals wq hC hd => (by exact Free.d_load rfl (Eq.trans (b := vals 6) (by kernel_rfl) (hd 6 (by kernel_rfl))) (by have hcc := HYY.out wq hC; go_simp) rfl)
                        · exact Free.ob_plain _ rfl rfl fun vals wq hC hd => (by exact Free.d_bin rfl (Eq.trans (b := vals 3) (by kernel_rfl) (hd 3 (by kernel_rfl))) (Eq.trans (b := vals 7) (by kernel_rfl) (hd 7 (by kernel_rfl))) (by go_simp) (by rw [run_eql_str, HS.out]) rfl)
                        · exact Free.ob_plain _ rfl rfl fun vals wq hC hd => (by exact Free.d_move rfl (by kernel_rfl) rfl)
                        · exact Free.ob_plain _ rfl rfl fun vals wq hC hd => (by exact Free.d_bin rfl (Eq.trans (b := vals 8) (by kernel_rfl) (hd 8 (by kernel_rfl))) (Eq.trans (b := vals 9) (by kernel_rfl) (hd 9 (by kernel_rfl))) (by go_simp) (by go_simp) rfl)
                      · intro vals wq hC hd
                        have e0 : vals 0 = (.slice (some ⟨bx, ox, none⟩) 4 kX) := hd 0 (by decide)
                        have e1 : vals 1 = (.int .i64 (i : Int)) := hd 1 (by decide)
                        have e2 : vals 2 = (.pointer (some ⟨bx, ox + i, none⟩)) := hd 2 (by decide)
                        have e3 : vals 3 = (sv (four a l r i)) := hd 3 (by decide)
                        have e4 : vals 4 = (.slice (some ⟨by', oy, none⟩) 4 kY) := hd 4 (by decide)
                        have e5 : vals 5 = (.int .i64 (kk : Int)) := hd 5 (by decide)
                        have e6 : vals 6 = (.pointer (some ⟨by', oy + kk, none⟩)) := hd 6 (by decide)
                        have e7 : vals 7 = (sv (four b p q kk)) := hd 7 (by decide)
                        have e8 : vals 8 = (.bool false) := hd 8 (by decide)
                        have e9 : vals 9 = (.bool false) := hd 9 (by decide)
                        have e10 : vals 10 = (.bool false) := hd 10 (by decide)
                        simp only [Free.frameOf, List.range, List.range.loop, List.foldl, Free.dstOf, List.getElem?_toArray, List.getElem?_cons_zero, List.getElem?_cons_succ, Option.bind_some, Act.put, List.setIfInBounds_toArray, List.set_cons_zero, List.set_cons_succ, e0, e1, e2, e3, e4, e5, e6, e7, e8, e9, e10]
                        refine wpList_nil ?_
                        clear hd e0 e1 e2 e3 e4 e5 e6 e7 e8 e9 e10
                        have HBQ := Lib.hid (bt HBR.out hC)
                        clear hC
                        go_wp2
                        go_roundw
                        case rel => exact ⟨kk + 1, by omega, by go_num, HBQ.out⟩
                        case measure => simp [intOf]; omega
                  · by_cases hi1 : i = 1
                    · have b1 : ((i : Int) == (kk : Int)) = false := beq_eq_false_iff_ne.2 (by omega)
                      have b1' : (i == kk) = false := by simpa using hik
                      have b2 : ((i : Int) == 1) = true := by simpa using (by omega : (i : Int) = 1)
                      have b3 : ((kk : Int) == 1) = false := by simpa using (by omega : ¬ (kk : Int) = 1)
                      have HIK := Lib.hid hik
                      have HI1 := Lib.hid hi1
                      clear hik hi1
                      have HS : Hid (decide (four a l r i = four b p q kk) = false) := Lib.hid (by rw [decide_eq_false]; exact four_apart hlt hlk HIK.out)
                      go_wp2_with fail
                      refine Free.wp_free_l 11 (fun W => Below w3.heap.size w3 W) [Free.kc (.slice (some ⟨bx, ox, none⟩) 4 kX), Free.kc (.int .i64 (i : Int)), Free.kc (.pointer (some ⟨bx, ox + i, none⟩)), Free.kc (sv (four a l r i)), Free.kc (.slice (some ⟨by', oy, none⟩) 4 kY), Free.kc (.int .i64 (kk : Int)), Free.kc (.pointer (some ⟨by', oy + kk, none⟩)), Free.kc (sv (four b p q kk)), Free.kc (.bool false), Free.kc (.bool false), Free.kc (.bool false)] (by kernel_rfl) (by kernel_rfl) (by decide) (Below.refl _ _).drew (fun w w' h g => bt h g) ?_ ?_
                      · refine Free.forall_succ (Free.forall_succ (Free.forall_succ (Free.forall_succ (Free.forall_succ (Free.forall_succ (Free.forall_succ (Free.forall_succ (Free.forall_succ (Free.forall_succ (Free.forall_succ (Free.forall_zero) ?_) ?_) ?_) ?_) ?_) ?_) ?_) ?_) ?_) ?_) ?_
                        · exact Free.ob_plain _ rfl rfl fun vals wq hC hd => (by exact Free.d_move rfl (by kernel_rfl) rfl)
                        · exact Free.ob_plain _ rfl rfl fun vals wq hC hd => (by exact Free.d_move rfl (by kernel_rfl) rfl)
                        · exact Free.ob_plain _ rfl rfl fun vals wq hC hd => (by exact Free.d_indexAddr rfl (Eq.trans (b := vals 0) (by kernel_rfl) (hd 0 (by kernel_rfl))) (Eq.trans (b := vals 1) (by kernel_rfl) (hd 1 (by kernel_rfl))) (run_idx 45 Tryd.underlying45 (by kernel_rfl) _ _ _ _ _ _ (by omega) (by omega)) rfl)
                        · exact Free.ob_plain _ rfl rfl fun vals wq hC hd => (by exact Free.d_load rfl (Eq.trans (b := vals 2) (by kernel_rfl) (hd 2 (by kernel_rfl))) (by have hcc := HXX.out wq hC; go_simp) rfl)
                        · exact Free.ob_plain _ rfl rfl fun vals wq hC hd => (by exact Free.d_move rfl (by kernel_rfl) rfl)
                        · exact Free.ob_plain _ rfl rfl fun vals wq hC hd => (by exact Free.d_move rfl (by kernel_rfl) rfl)
                        · exact Free.ob_plain _ rfl rfl fun vals wq hC hd => (by exact Free.d_indexAddr rfl (Eq.trans (b := vals 4) (by kernel_rfl) (hd 4 (by kernel_rfl))) (Eq.trans (b := vals 5) (by kernel_rfl) (hd 5 (by kernel_rfl))) (run_idx 45 Tryd.underlying45 (by kernel_rfl) _ _ _ _ _ _ (by omega) (by omega)) rfl)
                        · exact Free.ob_plain _ rfl rfl fun vals wq hC hd => (by exact Free.d_load rfl (Eq.trans (b := vals 6) (by kernel_rfl) (hd 6 (by kernel_rfl))) (by have hcc := HYY.out wq hC; go_simp) rfl)
                        · exact Free.ob_plain _ rfl rfl fun vals wq hC hd => (by exact Free.d_bin rfl (Eq.trans (b := vals 3) (by kernel_rfl) (hd 3 (by kernel_rfl))) (Eq.trans (b := vals 7) (by kernel_rfl) (hd 7 (by kernel_rfl))) (by go_simp) (by rw [run_eql_str, HS.out]) rfl)
                        · exact Free.ob_plain _ rfl rfl fun vals wq hC hd => (by exact Free.d_move rfl (by kernel_rfl) rfl)
                        · exact Free.ob_plain _ rfl rfl fun vals wq hC hd => (by exact Free.d_bin rfl (Eq.trans (b := vals 8) (by kernel_rfl) (hd 8 (by kernel_rfl))) (Eq.trans (b := vals 9) (by kernel_rfl) (hd 9 (by kernel_rfl))) (by go_simp) (by go_simp) rfl)
                      · intro vals wq hC hd
                        have e0 : vals 0 = (.slice (some ⟨bx, ox, none⟩) 4 kX) := hd 0 (by decide)
                        have e1 : vals 1 = (.int .i64 (i : Int)) := hd 1 (by decide)
                        have e2 : vals 2 = (.pointer (some ⟨bx, ox + i, none⟩)) := hd 2 (by decide)
                        have e3 : vals 3 = (sv (four a l r i)) := hd 3 (by decide)
                        have e4 : vals 4 = (.slice (some ⟨by', oy, none⟩) 4 kY) := hd 4 (by decide)
                        have e5 : vals 5 = (.int .i64 (kk : Int)) := hd 5 (by decide)
                        have e6 : vals 6 = (.pointer (some ⟨by', oy + kk, none⟩)) := hd 6 (by decide)
                        have e7 : vals 7 = (sv (four b p q kk)) := hd 7 (by decide)
                        have e8 : vals 8 = (.bool false) := hd 8 (by decide)
                        have e9 : vals 9 = (.bool false) := hd 9 (by decide)
                        have e10 : vals 10 = (.bool false) := hd 10 (by decide)
                        simp only [Free.frameOf, List.range, List.range.loop, List.foldl, Free.dstOf, List.getElem?_toArray, List.getElem?_cons_zero, List.getElem?_cons_succ, Option.bind_some, Act.put, List.setIfInBounds_toArray, List.set_cons_zero, List.set_cons_succ, e0, e1, e2, e3, e4, e5, e6, e7, e8, e9, e10]
                        refine wpList_nil ?_
                        clear hd e0 e1 e2 e3 e4 e5 e6 e7 e8 e9 e10
                        have HBQ := Lib.hid (bt HBR.out hC)
                        clear hC
                        go_wp2
                        go_roundw
                        case rel => exact ⟨kk + 1, by omega, by go_num, HBQ.out⟩
                        case measure => simp [intOf]; omega
                    · have b1 : ((i : Int) == (kk : Int)) = false := beq_eq_false_iff_ne.2 (by omega)
                      have b1' : (i == kk) = false := by simpa using hik
                      have b2 : ((i : Int) == 1) = false := by simpa using (by omega : ¬ (i : Int) = 1)
                      have HIK := Lib.hid hik
                      have HI1 := Lib.hid hi1
                      clear hik hi1
                      have HS : Hid (decide (four a l r i = four b p q kk) = false) := Lib.hid (by rw [decide_eq_false]; exact four_apart hlt hlk HIK.out)
                      go_wp2_with fail
                      refine Free.wp_free_l 11 (fun W => Below w3.heap.size w3 W) [Free.kc (.slice (some ⟨bx, ox, none⟩) 4 kX), Free.kc (.int .i64 (i : Int)), Free.kc (.pointer (some ⟨bx, ox + i, none⟩)), Free.kc (sv (four a l r i)), Free.kc (.slice (some ⟨by', oy, none⟩) 4 kY), Free.kc (.int .i64 (kk : Int)), Free.kc (.pointer (some ⟨by', oy + kk, none⟩)), Free.kc (sv (four b p q kk)), Free.kc (.bool false), Free.kc (.bool false), Free.kc (.bool false)] (by kernel_rfl) (by kernel_rfl) (by decide) (Below.refl _ _).drew (fun w w' h g => bt h g) ?_ ?_
                      · refine Free.forall_succ (Free.forall_succ (Free.forall_succ (Free.forall_succ (Free.forall_succ (Free.forall_succ (Free.forall_succ (Free.forall_succ (Free.forall_succ (Free.forall_succ (Free.forall_succ (Free.forall_zero) ?_) ?_) ?_) ?_) ?_) ?_) ?_) ?_) ?_) ?_) ?_
                        · exact Free.ob_plain _ rfl rfl fun vals wq hC hd => (by exact Free.d_move rfl (by kernel_rfl) rfl)
                        · exact Free.ob_plain _ rfl rfl fun vals wq hC hd => (by exact Free.d_move rfl (by kernel_rfl) rfl)
                        · exact Free.ob_plain _ rfl rfl fun vals wq hC hd => (by exact Free.d_indexAddr rfl (Eq.trans (b := vals 0) (by kernel_rfl) (hd 0 (by kernel_rfl))) (Eq.trans (b := vals 1) (by kernel_rfl) (hd 1 (by kernel_rfl))) (run_idx 45 Tryd.underlying45 (by kernel_rfl) _ _ _ _ _ _ (by omega) (by omega)) rfl)
                        · exact Free.ob_plain _ rfl rfl fun vals wq hC hd => (by exact Free.d_load rfl (Eq.trans (b := vals 2) (by kernel_rfl) (hd 2 (by kernel_rfl))) (by have hcc := HXX.out wq hC; go_simp) rfl)
                        · exact Free.ob_plain _ rfl rfl fun vals wq hC hd => (by exact Free.d_move rfl (by kernel_rfl) rfl)
                        · exact Free.ob_plain _ rfl rfl fun vals wq hC hd => (by exact Free.d_move rfl (by kernel_rfl) rfl)
                        · exact Free.ob_plain _ rfl rfl fun vals wq hC hd => (by exact Free.d_indexAddr rfl (Eq.trans (b := vals 4) (by kernel_rfl) (hd 4 (by kernel_rfl))) (Eq.trans (b := vals 5) (by kernel_rfl) (hd 5 (by kernel_rfl))) (run_idx 45 Tryd.underlying45 (by kernel_rfl) _ _ _ _ _ _ (by omega) (by omega)) rfl)
                        · exact Free.ob_plain _ rfl rfl fun vals wq hC hd => (by exact Free.d_load rfl (Eq.trans (b := vals 6) (by kernel_rfl) (hd 6 (by kernel_rfl))) (by have hcc := HYY.out wq hC; go_simp) rfl)
                        · exact Free.ob_plain _ rfl rfl fun vals wq hC hd => (by exact Free.d_bin rfl (Eq.trans (b := vals 3) (by kernel_rfl) (hd 3 (by kernel_rfl))) (Eq.trans (b := vals 7) (by kernel_rfl) (hd 7 (by kernel_rfl))) (by go_simp) (by rw [run_eql_str, HS.out]) rfl)
                        · exact Free.ob_plain _ rfl rfl fun vals wq hC hd => (by exact Free.d_move rfl (by kernel_rfl) rfl)
                        · exact Free.ob_plain _ rfl rfl fun vals wq hC hd => (by exact Free.d_bin rfl (Eq.trans (b := vals 8) (by kernel_rfl) (hd 8 (by kernel_rfl))) (Eq.trans (b := vals 9) (by kernel_rfl) (hd 9 (by kernel_rfl))) (by go_simp) (by go_simp) rfl)
                      · intro vals wq hC hd
                        have e0 : vals 0 = (.slice (some ⟨bx, ox, none⟩) 4 kX) := hd 0 (by decide)
                        have e1 : vals 1 = (.int .i64 (i : Int)) := hd 1 (by decide)
                        have e2 : vals 2 = (.pointer (some ⟨bx, ox + i, none⟩)) := hd 2 (by decide)
                        have e3 : vals 3 = (sv (four a l r i)) := hd 3 (by decide)
                        have e4 : vals 4 = (.slice (some ⟨by', oy, none⟩) 4 kY) := hd 4 (by decide)
                        have e5 : vals 5 = (.int .i64 (kk : Int)) := hd 5 (by decide)
                        have e6 : vals 6 = (.pointer (some ⟨by', oy + kk, none⟩)) := hd 6 (by decide)
                        have e7 : vals 7 = (sv (four b p q kk)) := hd 7 (by decide)
                        have e8 : vals 8 = (.bool false) := hd 8 (by decide)
                        have e9 : vals 9 = (.bool false) := hd 9 (by decide)
                        have e10 : vals 10 = (.bool false) := hd 10 (by decide)
                        simp only [Free.frameOf, List.range, List.range.loop, List.foldl, Free.dstOf, List.getElem?_toArray, List.getElem?_cons_zero, List.getElem?_cons_succ, Option.bind_some, Act.put, List.setIfInBounds_toArray, List.set_cons_zero, List.set_cons_succ, e0, e1, e2, e3, e4, e5, e6, e7, e8, e9, e10]
                        refine wpList_nil ?_
                        clear hd e0 e1 e2 e3 e4 e5 e6 e7 e8 e9 e10
                        have HBQ := Lib.hid (bt HBR.out hC)
                        clear hC
                        go_wp2
                        go_roundw
                        case rel => exact ⟨kk + 1, by omega, by go_num, HBQ.out⟩
                        case measure => simp [intOf]; omega
                · have hk4 : ¬ ((kk : Int) < 4) := by omega
                  go_wp2
                  go_roundw
                  case rel => exact ⟨i + 1, by omega, by go_num, HBR.out⟩
                  case measure => simp [intOf]; omega
            · have hi4 : ¬ ((i : Int) < 4) := by omega
              go_wp2_with fail
              refine (knows3_any _ (HT.out.below (bt HB2.out HBO.out))).mono ?_
              rintro e wz ⟨rfl, hbz⟩
              have HBZ := Lib.hid (bt (bt HB2.out HBO.out) hbz)
              clear hbz
              go_wp2
              go_ret
              exact ⟨rfl, HBZ.out⟩
  · exact skip hbig
end Go.Proofs.YtcnjpcmadkkhfaaDoor
