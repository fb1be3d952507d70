/- Path of what is no place, Range, Leaves, the digests of the law. No statement of the seat is proved here. -/
import Derived.Test.YtoiilhbjlfdfpaaDoorTree10
import Derived.Test.YtoiilhbjlfdfpaaDoorPieces
namespace Go.Proofs.YtoiilhbjlfdfpaaDoor
set_option linter.unusedVariables false
open Go.RowKit

set_option maxHeartbeats 4000000 in
theorem path_no (A : Option Addr) (n c : Nat) (l : List (List UInt8)) (i : Int) (w : World) (h : Ss w A n c l) (hwf : ∀ s ∈ l, s.length ≤ maxLen) (h1 : -9223372036854775808 ≤ i) (h2 : i ≤ 9223372036854775807)
    (hbad : Tree.all32 l = false ∨ i < 0 ∨ (n : Int) ≤ i) :
    Calls Tryd.prog 17 #[.slice A n c, .int .i64 i] w fun e w' => e = .returned (.tuple #[.slice none 0 0, .int .i64 1]) ∧ w = w' := by
  have hcap := h.cap
  have hmax := h.max
  rw [maxLen_eq] at hmax
  have hd := digests_any A n c l w h hwf
  cases ha : Tree.all32 l with
  | false =>
    rw [ha] at hd
    have HD := Lib.hid hd
    clear hd h hwf hbad ha
    go_enter Tryd.func17, Tryd.ntmps17
    go_wp2_with fail
    refine HD.out.mono ?_
    rintro e w1 ⟨rfl, rfl⟩
    go_wp2
    go_ret2
    exact ⟨rfl, rfl⟩
  | true =>
    rw [ha] at hd hbad
    have HD := Lib.hid hd
    clear hd h hwf ha
    by_cases h0 : i < 0
    · clear hbad
      go_enter Tryd.func17, Tryd.ntmps17
      go_wp2_with fail
      refine HD.out.mono ?_
      rintro e w1 ⟨rfl, rfl⟩
      go_wp2
      go_ret2
      exact ⟨rfl, rfl⟩
    · have h3 : (n : Int) ≤ i := by
        rcases hbad with h | h | h
        · cases h
        · exact absurd h h0
        · exact h
      clear hbad
      go_enter Tryd.func17, Tryd.ntmps17
      go_wp2_with fail
      refine HD.out.mono ?_
      rintro e w1 ⟨rfl, rfl⟩
      go_wp2
      go_ret2
      exact ⟨rfl, rfl⟩
set_option maxHeartbeats 4000000 in
theorem range_no (A : Option Addr) (n c : Nat) (i j : Int) (w : World) (hc : n ≤ c) (hm : c ≤ maxLen)
    (hbad : i < 0 ∨ j < i ∨ (n : Int) < j) :
    Calls Tryd.prog 26 #[.slice A n c, .int .i64 i, .int .i64 j] w fun e w' => e = .returned (.tuple #[sv [], .int .i64 1]) ∧ w = w' := by
  rw [maxLen_eq] at hm
  by_cases h0 : i < 0
  · clear hbad
    go_enter Tryd.func26, Tryd.ntmps26
    go_wp2
    go_ret2
    exact ⟨rfl, rfl⟩
  · by_cases h1 : j < i
    · clear hbad
      go_enter Tryd.func26, Tryd.ntmps26
      go_wp2
      go_ret2
      exact ⟨rfl, rfl⟩
    · have h2 : (n : Int) < j := by omega
      clear hbad
      go_enter Tryd.func26, Tryd.ntmps26
      go_wp2
      go_ret2
      exact ⟨rfl, rfl⟩
/-- What Range tells of a part that is there. -/
def rangeV (l : List (List UInt8)) : Value := if Tree.all32 l then .tuple #[sv (troot l), .int .i64 0] else .tuple #[sv [], .int .i64 1]
theorem rangeV_yes {l : List (List UInt8)} (h : Tree.all32 l = true) : rangeV l = .tuple #[sv (troot l), .int .i64 0] := by unfold rangeV; rw [if_pos h]
theorem rangeV_no {l : List (List UInt8)} (h : Tree.all32 l = false) : rangeV l = .tuple #[sv [], .int .i64 1] := by unfold rangeV; rw [if_neg (by rw [h]; decide)]
def tupV (v : Value) (w : World) (e : Ending) (w' : World) : Prop := e = .returned v ∧ Below w.heap.size w w'
theorem Root_all (A : Option Addr) (n c : Nat) (l : List (List UInt8)) (w : World) (h : Ss w A n c l) (hwf : ∀ s ∈ l, s.length ≤ maxLen) (hn : n ≤ 1000000) (ht : Tabs w) :
    Calls Tryd.prog 25 #[.slice A n c] w (tupV (rangeV l) w) := by
  cases ha : Tree.all32 l with
  | true => rw [rangeV_yes ha]; exact Root_any A n c l w h (Tree.all32_iff.1 ha) hn ht
  | false =>
    rw [rangeV_no ha]
    refine (Root_no A n c l w h hwf ha).mono ?_
    rintro e w1 ⟨rfl, rfl⟩
    exact ⟨rfl, Below.refl _ _⟩
set_option maxHeartbeats 4000000 in
theorem range_any (A : Option Addr) (n c : Nat) (l : List (List UInt8)) (i j : Nat) (w : World) (h : Ss w A n c l) (hwf : ∀ s ∈ l, s.length ≤ maxLen) (hij : i ≤ j) (hj : j ≤ n) (hn : n ≤ 1000000) (ht : Tabs w) :
    Calls Tryd.prog 26 #[.slice A n c, .int .i64 (i : Int), .int .i64 (j : Int)] w (tupV (rangeV ((l.take j).drop i)) w) := by
  have hcap := h.cap
  have hmax := h.max
  rw [maxLen_eq] at hmax
  have HH := Lib.hid h
  have HW := Lib.hid (show ∀ s ∈ (l.take j).drop i, s.length ≤ maxLen from fun s hs => hwf s (List.mem_of_mem_take (List.mem_of_mem_drop hs)))
  have HT := Lib.hid ht
  have g1 : ¬ (i : Int) < 0 := by omega
  have g2 : ¬ (j : Int) < (i : Int) := by omega
  have g3 : ¬ (n : Int) < (j : Int) := by omega
  clear h hwf ht
  obtain ⟨ps, hps⟩ : ∃ ps, (l.take j).drop i = ps := ⟨_, rfl⟩
  have HPS := Lib.hid hps
  rw [hps]
  clear hps
  have key : ∀ A', Ss w A' (j - i) (c - i) ps → Calls Tryd.prog 25 #[.slice A' (j - i) (c - i)] w (tupV (rangeV ps) w) := fun A' hs => Root_all A' _ _ ps w hs (by rw [← HPS.out]; exact HW.out) (by omega) HT.out
  have HK := Lib.hid key
  clear key
  cases ha : Tree.all32 ps with
  | true =>
    rw [rangeV_yes ha] at HK ⊢
    go_enter Tryd.func26, Tryd.ntmps26
    go_wp2_with (refine wl_cutS_lh rfl (.tmp 21) (.tmp 22) (.tmp 23) rfl rfl HH.out i j rfl rfl (by omega) (by omega) ?_; intro A' hs'; rw [HPS.out] at hs')
    refine (HK.out A' hs').mono ?_
    rintro e w1 ⟨rfl, hb1⟩
    go_wp2
    go_ret2
    exact ⟨rfl, hb1⟩
  | false =>
    rw [rangeV_no ha] at HK ⊢
    go_enter Tryd.func26, Tryd.ntmps26
    go_wp2_with (refine wl_cutS_lh rfl (.tmp 21) (.tmp 22) (.tmp 23) rfl rfl HH.out i j rfl rfl (by omega) (by omega) ?_; intro A' hs'; rw [HPS.out] at hs')
    refine (HK.out A' hs').mono ?_
    rintro e w1 ⟨rfl, hb1⟩
    go_wp2
    go_ret2
    exact ⟨rfl, hb1⟩
/-- The digests of leaves. -/
def tleaves (f : Nat → Piece) (n : Nat) : List (List UInt8) := (List.range n).map fun i => seal_ 0 (f i).l
theorem tleaves_succ (f : Nat → Piece) (n : Nat) : tleaves f (n + 1) = tleaves f n ++ [seal_ 0 (f n).l] := by
  unfold tleaves
  rw [List.range_succ, List.map_append]; rfl
set_option maxRecDepth 100000 in
set_option maxHeartbeats 4000000 in
theorem leaves_any (A : Option Addr) (n c : Nat) (f : Nat → Piece) (w : World) (hr : RowsAt w A n f) (hc : n ≤ c) (hm : c ≤ maxLen) (hn : n ≤ 1000000) (hl : ∀ i, i < n → (f i).n ≤ 1000000) (ht : Tabs w) :
    Calls Tryd.prog 41 #[.slice A n c] w (OwnSPost w.heap.size (tleaves f n) w) := by
  rw [maxLen_eq] at hm
  have HR := Lib.hid hr
  have HL := Lib.hid hl
  have HT := Lib.hid ht
  clear hr hl ht
  go_enter Tryd.func41, Tryd.ntmps41
  go_wp2
  go_loopw [3, 8] (fun v i wr => ∃ (k : Nat) (A2 : Option Addr) (n2 c2 : Nat), k ≤ n ∧ i = .int .i64 k ∧ v = .slice A2 n2 c2 ∧ n2 ≤ k ∧ OwnS wr w.heap.size A2 n2 c2 (tleaves f k) ∧ Below w.heap.size w wr) (fun _ i _ => n - (intOf i).toNat)
  case atStart => exact ⟨0, none, 0, 0, by omega, rfl, rfl, by omega, OwnS.nil _ _, Below.refl _ _⟩
  case round =>
    obtain ⟨k, A2, n2, c2, hk, rfl, rfl, hnk, hown, hbel⟩ := hrel
    by_cases hlt : k < n
    · obtain ⟨b, off, rfl, hb, hrows⟩ := HR.out (by omega)
      obtain ⟨hcell, hpc⟩ := hrows k hlt
      have hxn := HL.out k hlt
      have HE := Lib.hid (tleaves_succ f k)
      obtain ⟨x, hx⟩ : ∃ x, f k = x := ⟨_, rfl⟩
      rw [hx] at hcell hpc hxn HE
      have HP := Lib.hid hpc
      have x0 := (hbel.cell (p := ⟨b, off + k, none⟩) hb).trans hcell
      clear hrows hcell hpc hx
      go_wp2_with fail
      refine (leaf_any x.a x.n x.c x.l wr ((HP.out.rd.below' hbel (Nat.le_refl _)).more hbel.size) HP.out.len HP.out.cap HP.out.max hxn (HT.out.below hbel)).mono ?_
      rintro e w3 ⟨rfl, hb3⟩
      have hown3 := hown.keep hb3
      have hbel3 := bt hbel hb3
      go_wp2_with (at_builtin; refine wl_appS1 rfl (.tmp 12) (.tmp 15) rfl rfl hown3 rfl (seal_ 0 x.l) (by omega) hbel3.size ?_; intro A4 n4 c4 w4 ho4 hb4)
      go_roundw
      case rel => exact ⟨k + 1, A4, n4, c4, by omega, by go_num, rfl, by rw [← ho4.len, List.length_append, hown.len, List.length_singleton]; omega, by rw [HE.out]; exact ho4, hbel3.trans hb4⟩
      case measure => simp [intOf]; omega
    · obtain rfl : k = n := by omega
      go_wp2
      go_ret
      exact ⟨A2, n2, c2, rfl, hown, hbel⟩
theorem rleaf_any (A : Option Addr) (n c : Nat) (l : List UInt8) (w : World) (hr : Rd w w.heap.size A (l.map bv)) (hl : l.length = n) (hc : n ≤ c) (hm : c ≤ maxLen) (hs : n ≤ 1000000) :
    Calls Tryd.prog 48 #[.slice A n c] w (SealPost 0 l w) := by
  have HC := Lib.hid (rof_any 0 A n c l w hr hl hc hm hs)
  clear hr hl hm
  go_enter Tryd.func48, Tryd.ntmps48
  go_wp2_with fail
  refine HC.out.mono ?_
  rintro e w2 ⟨rfl, hb2⟩
  have HB2 := Lib.hid hb2
  clear hb2
  go_wp2
  go_ret
  exact ⟨rfl, HB2.out⟩
/-- Digests of the call's own, so many at most. -/
def DigsPost (most : Nat) (w : World) (e : Ending) (w' : World) : Prop := ∃ A n c l, e = .returned (.slice A n c) ∧ OwnS w' w.heap.size A n c l ∧ (∀ s ∈ l, s.length = 32) ∧ n ≤ most ∧ Below w.heap.size w w'
theorem seal_len (kd : UInt8) (l : List UInt8) : (seal_ kd l).length = 32 := Sha.sum_length _
structure Digs (w : World) (B : Nat) (A : Option Addr) (n c : Nat) (l : List (List UInt8)) : Prop where
  own : OwnS w B A n c l
  all : ∀ s ∈ l, s.length = 32
set_option maxRecDepth 100000 in
set_option maxHeartbeats 4000000 in
theorem ldig_any (A : Option Addr) (n c most : Nat) (f : Nat → Piece) (w : World) (hr : RowsAt w A n f) (hc : n ≤ c) (hm : c ≤ maxLen) (hmost : most ≤ 1000) :
    Calls Tryd.prog 24 #[.slice A n c, .int .i64 (most : Int)] w (DigsPost most w) := by
  rw [maxLen_eq] at hm
  have HR := Lib.hid hr
  clear hr
  go_enter Tryd.func24, Tryd.ntmps24
  go_wp2
  go_loopw [5, 6] (fun v i wr => ∃ (k : Nat) (A2 : Option Addr) (n2 c2 : Nat) (l2 : List (List UInt8)), k ≤ n ∧ k ≤ most ∧ i = .int .i64 k ∧ v = .slice A2 n2 c2 ∧ n2 ≤ k ∧ Digs wr w.heap.size A2 n2 c2 l2 ∧ Below w.heap.size w wr) (fun _ i _ => n - (intOf i).toNat)
  case atStart => exact ⟨0, none, 0, 0, [], by omega, by omega, rfl, rfl, by omega, ⟨OwnS.nil _ _, by simp⟩, Below.refl _ _⟩
  case round =>
    obtain ⟨k, A2, n2, c2, l2, hk, hk2, rfl, rfl, hnk, hown, hbel⟩ := hrel
    by_cases hlt : k < n
    · by_cases hlt2 : k < most
      · obtain ⟨b, off, rfl, hb, hrows⟩ := HR.out (by omega)
        obtain ⟨hcell, hpc⟩ := hrows k hlt
        obtain ⟨x, hx⟩ : ∃ x, f k = x := ⟨_, rfl⟩
        rw [hx] at hcell hpc
        have HP := Lib.hid hpc
        have hp1 := hpc.cap
        have hp2 := hpc.max
        rw [maxLen_eq] at hp2
        have x0 := (hbel.cell (p := ⟨b, off + k, none⟩) hb).trans hcell
        clear hrows hcell hpc hx
        by_cases hbig : x.n ≤ 1000
        · go_wp2_with fail
          refine (rleaf_any x.a x.n x.c x.l wr ((HP.out.rd.below' hbel (Nat.le_refl _)).more hbel.size) HP.out.len HP.out.cap HP.out.max (by omega)).mono ?_
          rintro e w3 ⟨rfl, hb3⟩
          have hown3 := hown.own.keep hb3
          have hbel3 := bt hbel hb3
          go_wp2_with (at_builtin; refine wl_appS1 rfl (.tmp 24) (.tmp 30) rfl rfl hown3 rfl (seal_ 0 x.l) (by omega) hbel3.size ?_; intro A4 n4 c4 w4 ho4 hb4)
          go_roundw
          case rel => exact ⟨k + 1, A4, n4, c4, _, by omega, by omega, by go_num, rfl, by rw [← ho4.len, List.length_append, hown.own.len, List.length_singleton]; omega, ⟨ho4, fun s hs => by rcases List.mem_append.1 hs with h | h; exact hown.all s h; rw [List.mem_singleton.1 h]; exact seal_len _ _⟩, hbel3.trans hb4⟩
          case measure => simp [intOf]; omega
        · go_wp2
          go_roundw
          case rel => exact ⟨k + 1, A2, n2, c2, l2, by omega, by omega, by go_num, rfl, by omega, hown, hbel⟩
          case measure => simp [intOf]; omega
      · go_wp2
        go_ret
        exact ⟨A2, n2, c2, l2, rfl, hown.own, hown.all, by omega, hbel⟩
    · go_wp2
      go_ret
      exact ⟨A2, n2, c2, l2, rfl, hown.own, hown.all, by omega, hbel⟩
end Go.Proofs.YtoiilhbjlfdfpaaDoor
