/- ConsLength: the walk of the law. -/
import Derived.Test.YtoiilhbjlfdfpaaDoorMConsB
import Derived.OpenShut
namespace Go.Proofs.YtoiilhbjlfdfpaaDoor
set_option linter.unusedVariables false
open Go.RowKit

/-- What Check tells. -/
def ccode (m n : Int) (one two : List UInt8) (p : List (List UInt8)) : Int :=
  if m < 0 ∨ n < m ∨ 1099511627776 < n ∨ ¬ one.length = 32 ∨ ¬ two.length = 32 then 1 else if Tree.all32 p && tcheck m.toNat n.toNat one two p then 0 else 6
theorem ccheck_code (m n : Int) (one two : List UInt8) (A : Option Addr) (k c : Nat) (p : List (List UInt8)) (w : World) (hs : Ss w A k c p) (hwf : ∀ s ∈ p, s.length ≤ maxLen) (hk : k ≤ 900) (hl1 : one.length ≤ 1000) (hl2 : two.length ≤ 1000) (ht : Tabs w)
    (l1 : -9223372036854775808 ≤ m) (l2 : m ≤ 9223372036854775807) (l3 : -9223372036854775808 ≤ n) (l4 : n ≤ 9223372036854775807) :
    Calls Tryd.prog 37 #[.int .i64 m, .int .i64 n, sv one, sv two, .slice A k c] w (RetI (ccode m n one two p) w) := by
  unfold ccode
  by_cases hbad : m < 0 ∨ n < m ∨ 1099511627776 < n ∨ ¬ one.length = 32 ∨ ¬ two.length = 32
  · rw [if_pos hbad]
    exact ccheck_arg m n one two A k c w hl1 hl2 l1 l2 l3 l4 hbad
  · rw [if_neg hbad]
    have g1 : ¬ m < 0 := fun h => hbad (.inl h)
    have g2 : ¬ n < m := fun h => hbad (.inr (.inl h))
    have g3 : ¬ 1099511627776 < n := fun h => hbad (.inr (.inr (.inl h)))
    have h1 : one.length = 32 := Decidable.byContradiction fun h => hbad (.inr (.inr (.inr (.inl h))))
    have h2 : two.length = 32 := Decidable.byContradiction fun h => hbad (.inr (.inr (.inr (.inr h))))
    obtain ⟨i, rfl⟩ : ∃ j : Nat, m = (j : Int) := ⟨m.toNat, by omega⟩
    obtain ⟨j, rfl⟩ : ∃ j : Nat, n = (j : Int) := ⟨n.toNat, by omega⟩
    rw [Int.toNat_natCast, Int.toNat_natCast]
    cases ha : Tree.all32 p with
    | false => rw [Bool.false_and]; exact ccheck_proof i j one two A k c p w hs hwf (by omega) (by omega) h1 h2 ha
    | true =>
      rw [Bool.true_and]
      exact ccheck_all i j one two A k c p w hs (Tree.all32_iff.1 ha) (by omega) (by omega) hk h1 h2 ht _ rfl _ rfl
theorem tcheck_len {m n : Nat} (hmn : m ≤ n) {one two : List UInt8} {p q : List (List UInt8)} (hp : tcheck m n one two p = true) (hq : tcheck m n one two q = true) : p.length = q.length := by
  by_cases h0 : m = 0
  · subst h0
    rw [tcheck_zero, Bool.and_eq_true, decide_eq_true_eq] at hp hq
    rw [hp.1, hq.1]
  · by_cases he : m = n
    · subst he
      rw [tcheck_all h0, Bool.and_eq_true, decide_eq_true_eq] at hp hq
      rw [hp.1, hq.1]
    · rw [tcheck_mid (by omega) (by omega), decide_eq_true_eq] at hp hq
      have key : ∀ (es : List Bool) (r : List (List UInt8)), Cons.up tnd es r = some (one, two) → r.length = es.length + 1 := fun es r h => by
        cases r with
        | nil => cases h
        | cons x xs => rw [List.length_cons, Cons.run_len tnd es xs x x _ h]
      split at hp
      · rename_i hz
        rw [if_pos hz] at hq
        have a := key _ _ hp
        have b := key _ _ hq
        simp only [List.length_cons] at a b
        omega
      · rename_i hz
        rw [if_neg hz] at hq
        rw [key _ _ hp, key _ _ hq]
theorem ccode_len {m n : Int} {one two : List UInt8} {p q : List (List UInt8)} (hp : ccode m n one two p = 0) (hq : ccode m n one two q = 0) : p.length = q.length := by
  unfold ccode at hp hq
  by_cases hbad : m < 0 ∨ n < m ∨ 1099511627776 < n ∨ ¬ one.length = 32 ∨ ¬ two.length = 32
  · rw [if_pos hbad] at hp; omega
  · rw [if_neg hbad] at hp hq
    split at hp
    · rename_i g1
      split at hq
      · rename_i g2
        rw [Bool.and_eq_true] at g1 g2
        exact tcheck_len (by have : ¬ n < m := fun h => hbad (.inr (.inl h)); omega) g1.2 g2.2
      · omega
    · omega
set_option maxRecDepth 100000 in
set_option maxHeartbeats 16000000 in
theorem conslength_any (m n : Int) (one : List UInt8) (ho : one.length ≤ maxLen) (two : List UInt8) (ho2 : two.length ≤ maxLen) (A : Option Addr) (k c : Nat) (p : List (List UInt8)) (B : Option Addr) (k2 c2 : Nat) (q : List (List UInt8)) (w : World)
    (hr : Rd w w.heap.size A (p.map sv)) (hn : p.length = k) (hc : k ≤ c) (hm : c ≤ maxLen) (hwf : ∀ s ∈ p, s.length ≤ maxLen)
    (hr2 : Rd w w.heap.size B (q.map sv)) (hn2 : q.length = k2) (hc2 : k2 ≤ c2) (hm2 : c2 ≤ maxLen) (hwf2 : ∀ s ∈ q, s.length ≤ maxLen) (ht : Tabs w)
    (hi : -9223372036854775808 ≤ m ∧ m ≤ 9223372036854775807) (hi' : -9223372036854775808 ≤ n ∧ n ≤ 9223372036854775807) :
    Calls Tryd.prog 13 #[.int .i64 m, .int .i64 n, sv one, sv two, .slice A k c, .slice B k2 c2] w (RetB true w) := by
  have hS : Ss w A k c p := ⟨hr, hn, hc, hm⟩
  have hS2 : Ss w B k2 c2 q := ⟨hr2, hn2, hc2, hm2⟩
  have g := great6_any A k c p w hS hwf
  have g' := great6_any B k2 c2 q w hS2 hwf2
  rw [maxLen_eq] at hm hm2 ho ho2
  have HT := Lib.hid ht
  obtain ⟨hi1, hi2⟩ := hi
  obtain ⟨hi3, hi4⟩ := hi'
  have z1 := strLen one
  have z2 := strLen two
  obtain ⟨q1, hq1⟩ : ∃ q, one.length = q := ⟨_, rfl⟩
  obtain ⟨q2, hq2⟩ : ∃ q, two.length = q := ⟨_, rfl⟩
  rw [hq1] at z1 ho
  rw [hq2] at z2 ho2
  cases hg : Tree.great p with
  | true =>
    rw [hg] at g
    have G := Lib.hid g
    clear g hg hS hr hwf ht hq1 hq2 g' hS2 hr2 hwf2
    go_enter Tryd.func13, Tryd.ntmps13
    go_wp2_with fail
    refine (G.out).mono ?_
    rintro e wz ⟨rfl, rfl⟩
    go_wp2_with fail
    refine (knows7_any w (HT.out.below (Below.refl w.heap.size w))).mono ?_
    rintro e w1 ⟨rfl, hb1⟩
    have HB1 := Lib.hid (bt (Below.refl w.heap.size w) hb1)
    clear hb1
    go_wp2
    go_ret
    exact ⟨rfl, HB1.out⟩
  | false =>
  cases hg2 : Tree.great q with
  | true =>
    rw [hg] at g
    rw [hg2] at g'
    have G := Lib.hid g
    have G2 := Lib.hid g'
    clear g hg hS hr hwf ht hq1 hq2 g' hg2 hS2 hr2 hwf2
    go_enter Tryd.func13, Tryd.ntmps13
    go_wp2_with fail
    refine (G.out).mono ?_
    rintro e wz ⟨rfl, rfl⟩
    go_wp2_with fail
    refine (G2.out).mono ?_
    rintro e wz ⟨rfl, rfl⟩
    go_wp2_with fail
    refine (knows7_any w (HT.out.below (Below.refl w.heap.size w))).mono ?_
    rintro e w1 ⟨rfl, hb1⟩
    have HB1 := Lib.hid (bt (Below.refl w.heap.size w) hb1)
    clear hb1
    go_wp2
    go_ret
    exact ⟨rfl, HB1.out⟩
  | false =>
    rw [hg] at g
    rw [hg2] at g'
    have G := Lib.hid g
    have G2 := Lib.hid g'
    have hn100 : k ≤ 100 := by rw [← hn]; exact (Tree.great_no hg).2
    have hn200 : k2 ≤ 100 := by rw [← hn2]; exact (Tree.great_no hg2).2
    have HS := Lib.hid hS
    have HS2 := Lib.hid hS2
    have HW := Lib.hid hwf
    have HW2 := Lib.hid hwf2
    clear g hg hr hwf ht g' hg2 hr2 hwf2 hS hS2
    by_cases b1 : q1 = 32
    case neg =>
      have b2 : ¬ (q1 : Int) = 32 := by omega
      have b3 : ((q1 : Int) == 32) = false := beq_eq_false_iff_ne.2 b2
      clear hq1 hq2
      go_enter Tryd.func13, Tryd.ntmps13
      go_wp2_with fail
      refine (G.out).mono ?_
      rintro e wz ⟨rfl, rfl⟩
      go_wp2_with fail
      refine (G2.out).mono ?_
      rintro e wz ⟨rfl, rfl⟩
      go_wp2_with fail
      refine (knows7_any w (HT.out.below (Below.refl w.heap.size w))).mono ?_
      rintro e w1 ⟨rfl, hb1⟩
      have HB1 := Lib.hid (bt (Below.refl w.heap.size w) hb1)
      clear hb1
      go_wp2
      go_ret
      exact ⟨rfl, HB1.out⟩
    by_cases b4 : q2 = 32
    case neg =>
      have b2 : ¬ (q2 : Int) = 32 := by omega
      have b3 : ((q2 : Int) == 32) = false := beq_eq_false_iff_ne.2 b2
      subst b1
      clear hq1 hq2
      go_enter Tryd.func13, Tryd.ntmps13
      go_wp2_with fail
      refine (G.out).mono ?_
      rintro e wz ⟨rfl, rfl⟩
      go_wp2_with fail
      refine (G2.out).mono ?_
      rintro e wz ⟨rfl, rfl⟩
      go_wp2_with fail
      refine (knows7_any w (HT.out.below (Below.refl w.heap.size w))).mono ?_
      rintro e w1 ⟨rfl, hb1⟩
      have HB1 := Lib.hid (bt (Below.refl w.heap.size w) hb1)
      clear hb1
      go_wp2
      go_ret
      exact ⟨rfl, HB1.out⟩
    by_cases b5 : k = k2
    · subst b1
      subst b4
      subst b5
      clear hq1 hq2
      go_enter Tryd.func13, Tryd.ntmps13
      go_wp2_with fail
      refine (G.out).mono ?_
      rintro e wz ⟨rfl, rfl⟩
      go_wp2_with fail
      refine (G2.out).mono ?_
      rintro e wz ⟨rfl, rfl⟩
      go_wp2_with fail
      refine (knows7_any w (HT.out.below (Below.refl w.heap.size w))).mono ?_
      rintro e w1 ⟨rfl, hb1⟩
      have HB1 := Lib.hid (bt (Below.refl w.heap.size w) hb1)
      clear hb1
      go_wp2
      go_ret
      exact ⟨rfl, HB1.out⟩
    have b6 : ¬ (k : Int) = (k2 : Int) := by omega
    have b7 : ((k : Int) == (k2 : Int)) = false := beq_eq_false_iff_ne.2 b6
    have hne : ¬ (ccode m n one two p = 0 ∧ ccode m n one two q = 0) := fun h => by
      have := ccode_len h.1 h.2
      omega
    obtain ⟨x, hx⟩ : ∃ x, ccode m n one two p = x := ⟨_, rfl⟩
    obtain ⟨y, hy⟩ : ∃ x, ccode m n one two q = x := ⟨_, rfl⟩
    have c1 := fun (W : World) (hW : Below w.heap.size w W) => ccheck_code m n one two A k c p W (HS.out.keep hW) HW.out (by omega) (by omega) (by omega) (HT.out.below hW) hi1 hi2 hi3 hi4
    have c2' := fun (W : World) (hW : Below w.heap.size w W) => ccheck_code m n one two B k2 c2 q W (HS2.out.keep hW) HW2.out (by omega) (by omega) (by omega) (HT.out.below hW) hi1 hi2 hi3 hi4
    rw [hx] at c1 hne
    rw [hy] at c2' hne
    have C1 := Lib.hid c1
    have C2 := Lib.hid c2'
    subst b1
    subst b4
    clear hx hy c1 c2' hq1 hq2 hn hn2
    by_cases hx0 : x = 0
    · subst hx0
      have hy0 : ¬ y = 0 := fun h => hne ⟨rfl, h⟩
      have hy1 : (y == 0) = false := beq_eq_false_iff_ne.2 hy0
      have hy2 : (y != 0) = true := by simp [hy0]
      clear hne
      go_enter Tryd.func13, Tryd.ntmps13
      go_wp2_with fail
      refine (G.out).mono ?_
      rintro e wz ⟨rfl, rfl⟩
      go_wp2_with fail
      refine (G2.out).mono ?_
      rintro e wz ⟨rfl, rfl⟩
      go_wp2_with fail
      refine (C1.out w (Below.refl w.heap.size w)).mono ?_
      rintro e w1 ⟨rfl, hb1⟩
      have HB1 := Lib.hid (bt (Below.refl w.heap.size w) hb1)
      clear hb1
      go_wp2_with fail
      refine (C2.out w1 HB1.out).mono ?_
      rintro e w2 ⟨rfl, hb2⟩
      have HB2 := Lib.hid (bt HB1.out hb2)
      clear hb2
      go_wp2_with fail
      refine (knows7_any w2 (HT.out.below HB2.out)).mono ?_
      rintro e w3 ⟨rfl, hb3⟩
      have HB3 := Lib.hid (bt HB2.out hb3)
      clear hb3
      go_wp2
      go_ret
      exact ⟨rfl, HB3.out⟩
    · have hx1 : (x == 0) = false := beq_eq_false_iff_ne.2 hx0
      clear hne
      go_enter Tryd.func13, Tryd.ntmps13
      go_wp2_with fail
      refine (G.out).mono ?_
      rintro e wz ⟨rfl, rfl⟩
      go_wp2_with fail
      refine (G2.out).mono ?_
      rintro e wz ⟨rfl, rfl⟩
      go_wp2_with fail
      refine (C1.out w (Below.refl w.heap.size w)).mono ?_
      rintro e w1 ⟨rfl, hb1⟩
      have HB1 := Lib.hid (bt (Below.refl w.heap.size w) hb1)
      clear hb1
      go_wp2_with fail
      refine (knows7_any w1 (HT.out.below HB1.out)).mono ?_
      rintro e w2 ⟨rfl, hb2⟩
      have HB2 := Lib.hid (bt HB1.out hb2)
      clear hb2
      go_wp2
      go_ret
      exact ⟨rfl, HB2.out⟩
end Go.Proofs.YtoiilhbjlfdfpaaDoor
