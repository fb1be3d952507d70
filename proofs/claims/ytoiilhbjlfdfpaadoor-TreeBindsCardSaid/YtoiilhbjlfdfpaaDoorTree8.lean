/- Climb, of the tree. No statement of the seat is proved here. -/
import Derived.Test.YtoiilhbjlfdfpaaDoorTree7
namespace Go.Proofs.YtoiilhbjlfdfpaaDoor
set_option linter.unusedVariables false
open Go.RowKit

set_option maxRecDepth 100000 in
set_option maxHeartbeats 4000000 in
theorem climb_arg (d : List UInt8) (i n : Int) (A : Option Addr) (m c : Nat) (w : World) (hd : d.length ≤ maxLen) (h1 : -9223372036854775808 ≤ i) (h2 : i ≤ 9223372036854775807) (h3 : -9223372036854775808 ≤ n) (h4 : n ≤ 9223372036854775807)
    (hbad : ¬ d.length = 32 ∨ n < 1 ∨ 1099511627776 < n ∨ i < 0 ∨ n ≤ i) :
    Calls Tryd.prog 21 #[sv d, .int .i64 i, .int .i64 n, .slice A m c] w fun e w' => e = .returned (.tuple #[sv [], .int .i64 1]) ∧ w = w' := by
  rw [maxLen_eq] at hd
  have z := strLen d
  obtain ⟨q, hq⟩ : ∃ q, d.length = q := ⟨_, rfl⟩
  rw [hq] at hd z hbad
  clear hq
  by_cases a1 : q = 32
  · subst a1
    by_cases a2 : n < 1
    · clear hbad
      go_enter Tryd.func21, Tryd.ntmps21
      go_wp2
      go_ret2
      exact ⟨rfl, rfl⟩
    · by_cases a3 : 1099511627776 < n
      · clear hbad
        go_enter Tryd.func21, Tryd.ntmps21
        go_wp2
        go_ret2
        exact ⟨rfl, rfl⟩
      · by_cases a4 : i < 0
        · clear hbad
          go_enter Tryd.func21, Tryd.ntmps21
          go_wp2
          go_ret2
          exact ⟨rfl, rfl⟩
        · have a5 : n ≤ i := by omega
          clear hbad
          go_enter Tryd.func21, Tryd.ntmps21
          go_wp2
          go_ret2
          exact ⟨rfl, rfl⟩
  · have b1 : ((q : Int) == 32) = false := beq_eq_false_iff_ne.2 (by omega)
    have b2 : ¬ (q : Int) = 32 := by omega
    clear hbad
    go_enter Tryd.func21, Tryd.ntmps21
    go_wp2
    go_ret2
    exact ⟨rfl, rfl⟩
set_option maxRecDepth 100000 in
set_option maxHeartbeats 8000000 in
theorem climb_proof (d : List UInt8) (i n : Nat) (A : Option Addr) (m c : Nat) (p : List (List UInt8)) (w : World) (hd : d.length = 32) (hi : i < n) (hn : n ≤ 1099511627776) (h : Ss w A m c p) (hwf : ∀ s ∈ p, s.length ≤ maxLen)
    (hbad : ¬ m = (Tree.sides i n).length ∨ Tree.all32 p = false) :
    Calls Tryd.prog 21 #[sv d, .int .i64 (i : Int), .int .i64 (n : Int), .slice A m c] w fun e w' => e = .returned (.tuple #[sv [], .int .i64 6]) ∧ Below w.heap.size w w' := by
  have z := strLen d
  rw [hd] at z
  have hm := h.max
  have hcap := h.cap
  rw [maxLen_eq] at hm
  have hlog := Tree.sides_log 40 i n (by rw [show (2 : Nat) ^ 40 = 1099511627776 by decide]; exact hn) hi
  have HD := Lib.hid (descend_any i n w hi hn)
  obtain ⟨S, hS⟩ : ∃ S, Tree.sides i n = S := ⟨_, rfl⟩
  rw [hS] at hlog hbad HD
  clear hS
  obtain ⟨t, ht⟩ : ∃ t, S.length = t := ⟨_, rfl⟩
  rw [ht] at hlog hbad
  have g1 : ¬ (n : Int) < 1 := by omega
  have g2 : ¬ (1099511627776 : Int) < (n : Int) := by omega
  have g3 : ¬ (i : Int) < 0 := by omega
  have g4 : ¬ (n : Int) ≤ (i : Int) := by omega
  have HH := Lib.hid h
  have HW := Lib.hid hwf
  clear h hwf
  by_cases hmt : m = t
  · have ha : Tree.all32 p = false := by
      rcases hbad with h | h
      · exact absurd hmt h
      · exact h
    have HA := Lib.hid ha
    clear hbad ha
    subst hmt
    go_enter Tryd.func21, Tryd.ntmps21
    go_wp2_with fail
    refine HD.out.mono ?_
    rintro e w1 ⟨A1, n1, c1, rfl, ho1, hb1⟩
    have hn1 : n1 = m := by rw [← ho1.len, ht]
    subst hn1
    go_wp2_with fail
    refine (digests_any A n1 c p w1 (HH.out.keep hb1) HW.out).mono ?_
    rintro e w2 ⟨rfl, rfl⟩
    rw [HA.out]
    go_wp2
    go_ret2
    exact ⟨rfl, hb1⟩
  · have b1 : ((m : Int) == (t : Int)) = false := beq_eq_false_iff_ne.2 (by omega)
    clear hbad
    go_enter Tryd.func21, Tryd.ntmps21
    go_wp2_with fail
    refine HD.out.mono ?_
    rintro e w1 ⟨A1, n1, c1, rfl, ho1, hb1⟩
    have hn1 : n1 = t := by rw [← ho1.len, ht]
    subst hn1
    go_wp2
    go_ret2
    exact ⟨rfl, hb1⟩
set_option maxRecDepth 100000 in
set_option maxHeartbeats 8000000 in
theorem climb_yes (d : List UInt8) (i n : Nat) (A : Option Addr) (m c : Nat) (p : List (List UInt8)) (w : World) (hd : d.length = 32) (hi : i < n) (hn : n ≤ 1099511627776) (h : Ss w A m c p) (h32 : ∀ s ∈ p, s.length = 32) (ht : Tabs w)
    (hlen : m = (Tree.sides i n).length) :
    Calls Tryd.prog 21 #[sv d, .int .i64 (i : Int), .int .i64 (n : Int), .slice A m c] w fun e w' => e = .returned (.tuple #[sv (tclimb d i n p), .int .i64 0]) ∧ Below w.heap.size w w' := by
  have z := strLen d
  rw [hd] at z
  have hm := h.max
  have hcap := h.cap
  rw [maxLen_eq] at hm
  have hlog := Tree.sides_log 40 i n (by rw [show (2 : Nat) ^ 40 = 1099511627776 by decide]; exact hn) hi
  have HD := Lib.hid (descend_any i n w hi hn)
  have HE := Lib.hid (show tclimb d i n p = Tree.clb tnd tnil d (Tree.sides i n) p from rfl)
  obtain ⟨S, hS⟩ : ∃ S, Tree.sides i n = S := ⟨_, rfl⟩
  rw [hS] at hlog hlen HD HE
  clear hS
  have g1 : ¬ (n : Int) < 1 := by omega
  have g2 : ¬ (1099511627776 : Int) < (n : Int) := by omega
  have g3 : ¬ (i : Int) < 0 := by omega
  have g4 : ¬ (n : Int) ≤ (i : Int) := by omega
  have HT := Lib.hid ht
  have H32 := Lib.hid h32
  have HL := Lib.hid (And.intro hlen h.len)
  have HDL := Lib.hid hd
  have hm40 : m ≤ 40 := by omega
  clear ht h32 hlen hlog hd
  go_enter Tryd.func21, Tryd.ntmps21
  go_wp2_with fail
  refine HD.out.mono ?_
  rintro e w1 ⟨A1, n1, c1, rfl, ho1, hb1⟩
  have hn1 : n1 = m := by rw [← ho1.len, HL.out.1]
  subst hn1
  have HB1 := Lib.hid hb1
  have hs1 := h.keep hb1
  clear hb1
  go_wp2_with fail
  refine (digests_any A n1 c p w1 hs1 (fun s hs => by rw [H32.out s hs]; decide)).mono ?_
  rintro e w2 ⟨rfl, rfl⟩
  rw [Tree.all32_iff.2 H32.out]
  go_wp2
  go_loopw [11, 49] (fun vd vj wr => ∃ (Y : List UInt8) (j : Nat), vd = sv Y ∧ vj = .int .i64 j ∧ j ≤ n1 ∧ Hid (Y.length = 32 ∧ Y = Tree.clb tnd tnil d (S.drop (S.length - j)) (p.take j)) ∧ Below w1.heap.size w1 wr) (fun _ vj _ => n1 - (intOf vj).toNat)
  case atStart => exact ⟨d, 0, rfl, rfl, by omega, Lib.hid ⟨HDL.out, by rw [Nat.sub_zero, List.drop_length]; rfl⟩, Below.refl _ _⟩
  case round =>
    obtain ⟨Y, j, rfl, rfl, hj, hY, hbel⟩ := hrel
    by_cases hlt : j < n1
    · obtain ⟨r, hr⟩ : ∃ r, r + 1 + j = n1 := ⟨n1 - 1 - j, by omega⟩
      obtain ⟨b, off, rfl, hbb, hcell, x, hx⟩ := hs1.at hlt
      have x0 := (hbel.cell (p := ⟨b, off + j, none⟩) hbb).trans (hcell j x hx)
      obtain ⟨s, hs⟩ : ∃ s, S[r]? = some s := ⟨_, List.getElem?_eq_getElem (by rw [← HL.out.1]; omega)⟩
      obtain ⟨b2, off2, rfl, hb2, y0⟩ := (ho1.keep hbel).at hs
      have hxl := H32.out x (List.mem_of_getElem? hx)
      have HN := Lib.hid (Tree.clb_next tnd tnil d (S := S) (p := p) (j := j) (s := s) (x := x) (by rw [HL.out.2, ← HL.out.1]) (by rw [HL.out.2]; exact hlt) (by rw [← HL.out.1, show n1 - 1 - j = r by omega]; exact hs) hx)
      have c1 : (n1 : Int) - 1 - (j : Int) = (r : Int) := by omega
      have hrn : r < n1 := by omega
      have hci : (j : Int) < (n1 : Int) := by omega
      have HX := Lib.hid hxl
      clear hcell hx hs hr hxl
      cases s with
      | true =>
        go_wp2_with fail
        refine (tnode_any x Y wr HX.out hY.out.1 (HT.out.below (bt HB1.out hbel))).mono ?_
        rintro e w3 ⟨rfl, hb3⟩
        have HB3 := Lib.hid (bt hbel hb3)
        clear hb3 x0 y0
        go_wp2
        go_roundw
        case rel => exact ⟨_, j + 1, rfl, by go_num, by omega, Lib.hid ⟨tnd_len _ _, by rw [HN.out, ← hY.out.2]; simp⟩, HB3.out⟩
        case measure => simp [intOf]; omega
      | false =>
        go_wp2_with fail
        refine (tnode_any Y x wr hY.out.1 HX.out (HT.out.below (bt HB1.out hbel))).mono ?_
        rintro e w3 ⟨rfl, hb3⟩
        have HB3 := Lib.hid (bt hbel hb3)
        clear hb3 x0 y0
        go_wp2
        go_roundw
        case rel => exact ⟨_, j + 1, rfl, by go_num, by omega, Lib.hid ⟨tnd_len _ _, by rw [HN.out, ← hY.out.2]; simp⟩, HB3.out⟩
        case measure => simp [intOf]; omega
    · obtain rfl : j = n1 := by omega
      have HF := Lib.hid (show tclimb d i n p = Y by
        rw [HE.out, hY.out.2, ← HL.out.1, Nat.sub_self, List.drop_zero, List.take_of_length_le (by rw [HL.out.2]; exact Nat.le_refl _)])
      have HB := Lib.hid (bt HB1.out hbel)
      go_wp2
      go_ret2
      exact ⟨by rw [HF.out]; rfl, HB.out⟩
end Go.Proofs.YtoiilhbjlfdfpaaDoor
