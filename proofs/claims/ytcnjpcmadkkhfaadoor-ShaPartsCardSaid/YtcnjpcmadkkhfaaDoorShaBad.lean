/- ShaBad: the walk of the law. -/
import Derived.Test.YtcnjpcmadkkhfaaDoorShaKnows
namespace Go.Proofs.YtcnjpcmadkkhfaaDoor
set_option linter.unusedVariables false
open Go.RowKit

/-- The state without words. -/
def zst : Sha.St := ⟨0, 0, 0, 0, 0, 0, 0, 0⟩
theorem bad_end (A : Option Addr) (n c : Nat) (rest : List UInt8) (N : Int) (w : World) (hA : Rd w w.heap.size A (rest.map bv)) (hn : rest.length = n) (hc : n ≤ c) (hm : c ≤ maxLen) (hv : vld N n = false) (ht : Tabs w) :
    Calls Tryd.prog 18 #[.agg #[.int .u32 0, .int .u32 0, .int .u32 0, .int .u32 0, .int .u32 0, .int .u32 0, .int .u32 0, .int .u32 0, .slice A n c, .int .i64 N]] w (SumPost [] w) := by
  refine Calls.mono (show Calls Tryd.prog 18 #[tv zst (.slice A n c) N] w (EndPost zst rest N w) from end_any zst A n c rest N w hA hn hc hm ht.r ht.b) ?_
  rintro e w' ⟨rfl, hb⟩
  refine ⟨?_, hb⟩
  have hv' : vld N rest.length = false := by rw [hn]; exact hv
  have e4 : endS zst N rest.length = Sha.begin_ := by unfold endS; rw [hv']; rfl
  have e5 : endR rest N rest.length = [] := by unfold endR; rw [hv']; rfl
  have e6 : endN N rest.length = 0 := by unfold endN; rw [hv']; rfl
  rw [e4, e5, e6]
  exact congrArg (fun x => Ending.returned (sv x)) Hex.end_new
/-- What was added to nothing: the sum. -/
def AddedPost (l : List UInt8) (w : World) (e : Ending) (w' : World) : Prop :=
  ∃ p : Sha.St × List UInt8, p = Sha.proc Sha.begin_ l ∧ ∃ A c, e = .returned (tv p.1 (.slice A p.2.length c) l.length) ∧ Rd w' w'.heap.size A (p.2.map bv) ∧ p.2.length ≤ c ∧ c ≤ maxLen ∧ Below w.heap.size w w'
theorem bad_add (A : Option Addr) (n c : Nat) (rest : List UInt8) (N : Int) (B : Option Addr) (m k : Nat) (l : List UInt8) (w : World) (hA : Rd w w.heap.size A (rest.map bv)) (hn : rest.length = n) (hc : n ≤ c) (hm : c ≤ maxLen)
    (hB : Rd w w.heap.size B (l.map bv)) (hl : l.length = m) (hk : m ≤ k) (hk2 : k ≤ maxLen) (hm2 : m ≤ 1099511627776) (hv : vld N n = false) (ht : Tabs w) :
    Calls Tryd.prog 17 #[.agg #[.int .u32 0, .int .u32 0, .int .u32 0, .int .u32 0, .int .u32 0, .int .u32 0, .int .u32 0, .int .u32 0, .slice A n c, .int .i64 N], .slice B m k] w (AddedPost l w) := by
  refine Calls.mono (show Calls Tryd.prog 17 #[tv zst (.slice A n c) N, .slice B m k] w (AddPost zst rest N l w) from add_any zst A n c rest N B m k l w hA hn hc hm hB hl hk hk2 hm2 ht.r ht.b) ?_
  rintro e w' ⟨p, hp, A2, c2, rfl, hr, hc2, hc2', hb⟩
  have htk : takes N rest.length l.length = false := by rw [hn]; unfold takes; rw [hv]; rfl
  have e1 : effS zst N rest.length l.length = Sha.begin_ := by unfold effS; rw [htk]; rfl
  have e2 : effR rest N rest.length l.length = [] := by unfold effR; rw [htk]; rfl
  have e3 : effN N rest.length l.length = 0 := by unfold effN; rw [htk]; rfl
  rw [e1, e2, List.nil_append] at hp
  rw [e3, Int.zero_add]
  exact ⟨p, hp, A2, c2, rfl, hr, hc2, hc2', hb⟩
theorem added_end (p : Sha.St × List UInt8) (l : List UInt8) (hp : p = Sha.proc Sha.begin_ l) (A : Option Addr) (c : Nat) (w : World) (hA : Rd w w.heap.size A (p.2.map bv)) (hc : p.2.length ≤ c) (hm : c ≤ maxLen) (hl : l.length ≤ 1099511627776) (ht : Tabs w) :
    Calls Tryd.prog 18 #[tv p.1 (.slice A p.2.length c) l.length] w (SumPost l w) := by
  refine (end_any p.1 A p.2.length c p.2 _ w hA rfl hc hm ht.r ht.b).mono ?_
  rintro e w' ⟨rfl, hb⟩
  refine ⟨?_, hb⟩
  have hv : vld (l.length : Int) p.2.length = true := by
    rw [hp, Sha.proc_rest]; exact vld_of _ hl
  have e4 : endS p.1 (l.length : Int) p.2.length = p.1 := by unfold endS; rw [hv]; rfl
  have e5 : endR p.2 (l.length : Int) p.2.length = p.2 := by unfold endR; rw [hv]; rfl
  have e6 : endN (l.length : Int) p.2.length = (l.length : Int) := by unfold endN; rw [hv]; rfl
  rw [e4, e5, e6, Int.toNat_natCast]
  unfold Sha.sum
  rw [← hp]

set_option maxRecDepth 100000 in
set_option maxHeartbeats 4000000 in
theorem bad_any (A : Option Addr) (n c : Nat) (rest : List UInt8) (N : Int) (B : Option Addr) (m k : Nat) (l : List UInt8) (w : World)
    (hA : Rd w w.heap.size A (rest.map bv)) (hn : rest.length = n) (hc : n ≤ c) (hm : c ≤ maxLen) (hB : Rd w w.heap.size B (l.map bv)) (hl : l.length = m) (hk : m ≤ k) (hk2 : k ≤ maxLen) (ht : Tabs w) :
    Calls Tryd.prog 5 #[.slice A n c, .int .i64 N, .slice B m k] w (Yes w) := by
  have HA := Lib.hid (And.intro hA (And.intro hn (And.intro hc hm)))
  have HB := Lib.hid (And.intro hB (And.intro hl (And.intro hk hk2)))
  have HT := Lib.hid ht
  rw [maxLen_eq] at hm hk2
  clear hA hn hB hl ht
  go_enter Tryd.func5, Tryd.ntmps5
  go_upto_region 1 with fail
  rename_i K1 h1 K h
  have key : n ≤ 1000 → m ≤ 1000 → vld N n = false → ∀ (u8 u9 u10 u11 u12 u13 u14 u15 u16 u17 u18 u19 u20 u21 u22 u23 u24 u25 u26 u27 u28 u29 u30 : Value), K1 { tmps := #[.slice A n c, .int .i64 N, .slice B m k, undef, undef, undef, .bool false, undef, u8, u9, u10, u11, u12, u13, u14, u15, u16, u17, u18, u19, u20, u21, u22, u23, u24, u25, u26, u27, u28, u29, u30, undef, undef, undef, undef, undef, undef, undef, undef, undef, undef, undef, undef, undef, undef, undef, undef, undef, undef, undef, undef], defers := [] } w := by
    clear h K
    intro hn1 hm1 hv u8 u9 u10 u11 u12 u13 u14 u15 u16 u17 u18 u19 u20 u21 u22 u23 u24 u25 u26 u27 u28 u29 u30
    have HV := Lib.hid hv
    clear hv
    refine h1 _ _ ?_
    clear h1
    obtain ⟨S, hS⟩ : ∃ S, Sha.sum l = S := ⟨_, rfl⟩
    obtain ⟨Z, hZ⟩ : ∃ Z, Sha.sum [] = Z := ⟨_, rfl⟩
    have q1 : ((str S).toList == (str S).toList) = true := by simp
    have q2 : ((str Z).toList == (str Z).toList) = true := by simp
    have c1 := fun (W : World) (hb : Below w.heap.size w W) => bad_end A n c rest N W (HA.out.1.below' hb (Nat.le_refl _) |>.more hb.size) HA.out.2.1 HA.out.2.2.1 HA.out.2.2.2 HV.out (HT.out.below hb)
    have c2 := fun (W : World) => rsum_any none 0 0 [] W Rd.nil rfl (Nat.le_refl _) (Nat.zero_le _) (by omega)
    have c3 := fun (W : World) (hb : Below w.heap.size w W) => bad_add A n c rest N B m k l W (HA.out.1.below' hb (Nat.le_refl _) |>.more hb.size) HA.out.2.1 HA.out.2.2.1 HA.out.2.2.2 (HB.out.1.below' hb (Nat.le_refl _) |>.more hb.size) HB.out.2.1 HB.out.2.2.1 HB.out.2.2.2 (by omega) HV.out (HT.out.below hb)
    have c4 := fun (W : World) (hb : Below w.heap.size w W) => rsum_any B m k l W (HB.out.1.below' hb (Nat.le_refl _) |>.more hb.size) HB.out.2.1 HB.out.2.2.1 HB.out.2.2.2 (by omega)
    unfold SumPost at c1
    unfold RSumPost at c2 c4
    rw [hZ] at c1 c2
    rw [hS] at c4
    have C1 := Lib.hid c1
    have C2 := Lib.hid c2
    have C3 := Lib.hid c3
    have C4 := Lib.hid c4
    have HS := Lib.hid hS
    clear c1 c2 c3 c4 hS hZ
    go_wp2_with fail
    have hrow : TRow (w.alloc (.cells (tc zst (.slice A n c) N).toArray 30)) w.heap.size zst (.slice A n c) N := row_new w _ _
    have hb0 : Below w.heap.size w (w.alloc (.cells (tc zst (.slice A n c) N).toArray 30)) := (Below.refl _ w).alloc (Nat.le_refl _) _
    have HROW := Lib.hid (And.intro hrow hb0)
    clear hrow hb0
    refine (C1.out _ HROW.out.2).mono ?_
    rintro e w1 ⟨rfl, hb1⟩
    have HB1 := Lib.hid (bt (Below.refl _ _) hb1)
    clear hb1
    go_wp2_with fail
    refine (C2.out _).mono ?_
    rintro e w2 ⟨rfl, hb2⟩
    have HB2 := Lib.hid (bt HB1.out hb2)
    clear hb2
    have ten := TRow.ten (Row.belowS HROW.out.1 HB2.out (Nat.le_refl _))
    have g0 : w2.cell? ⟨w.heap.size, 0, none⟩ = some (.int .u32 0) := ten.c0
    have g1 : w2.cell? ⟨w.heap.size, 1, none⟩ = some (.int .u32 0) := ten.c1
    have g2 : w2.cell? ⟨w.heap.size, 2, none⟩ = some (.int .u32 0) := ten.c2
    have g3 : w2.cell? ⟨w.heap.size, 3, none⟩ = some (.int .u32 0) := ten.c3
    have g4 : w2.cell? ⟨w.heap.size, 4, none⟩ = some (.int .u32 0) := ten.c4
    have g5 : w2.cell? ⟨w.heap.size, 5, none⟩ = some (.int .u32 0) := ten.c5
    have g6 : w2.cell? ⟨w.heap.size, 6, none⟩ = some (.int .u32 0) := ten.c6
    have g7 : w2.cell? ⟨w.heap.size, 7, none⟩ = some (.int .u32 0) := ten.c7
    have g8 := ten.c8
    have g9 := ten.c9
    clear ten
    have HW2 := Lib.hid (HROW.out.2.trans (HB2.out.mono HROW.out.2.size))
    go_wp2_with fail
    refine (C3.out _ HW2.out).mono ?_
    rintro e w3 ⟨p, hp, A3, c3, rfl, hr3, hd3, hd3', hb3⟩
    have HP := Lib.hid (And.intro hp (And.intro hr3 (And.intro hd3 hd3')))
    have HW3 := Lib.hid (bt HW2.out hb3)
    clear hp hr3 hd3 hd3' hb3 g0 g1 g2 g3 g4 g5 g6 g7 g8 g9
    go_wp2_with fail
    refine (added_end p l HP.out.1 A3 c3 _ HP.out.2.1 HP.out.2.2.1 HP.out.2.2.2 (by rw [HB.out.2.1]; omega) (HT.out.below HW3.out)).mono ?_
    rintro e w4 ⟨rfl, hb4⟩
    rw [HS.out]
    have HW4 := Lib.hid (bt HW3.out hb4)
    clear hb4
    go_wp2_with fail
    refine (C4.out _ HW4.out).mono ?_
    rintro e w5 ⟨rfl, hb5⟩
    have HW5 := Lib.hid (bt HW4.out hb5)
    clear hb5
    go_wp2_with fail
    refine (knows_any _ (HT.out.below HW5.out)).mono ?_
    rintro e w6 ⟨rfl, hb6⟩
    have HW6 := Lib.hid (bt HW5.out hb6)
    clear hb6
    go_wp2
    go_ret
    exact ⟨rfl, HW6.out⟩
  have KEY := Lib.hid key
  clear key h1
  by_cases h1 : n ≤ 1000
  · by_cases h2 : m ≤ 1000
    · by_cases h3 : 0 ≤ N
      · by_cases h4 : N ≤ 1099511627776
        · have tm : N.tmod 64 = N % 64 := Int.tmod_eq_emod_of_nonneg h3
          by_cases h5 : (n : Int) = N % 64
          · have h6 : ((n : Int) == N % 64) = true := by simpa using h5
            go_wp2_with fail
            refine (knows_any _ HT.out).mono ?_
            rintro e w4 ⟨rfl, hb4⟩
            go_wp2
            go_ret
            exact ⟨rfl, hb4⟩
          · have h6 : ((n : Int) == N % 64) = false := by simpa using h5
            have HV := Lib.hid (show vld N n = false by unfold vld; simp [h5])
            go_wp2_with fail
            exact KEY.out h1 h2 HV.out _ _ _ _ _ _ _ _ _ _ _ _ _ _ _ _ _ _ _ _ _ _ _
        · have HV := Lib.hid (show vld N n = false by unfold vld; simp [h4])
          go_wp2_with fail
          exact KEY.out h1 h2 HV.out _ _ _ _ _ _ _ _ _ _ _ _ _ _ _ _ _ _ _ _ _ _ _
      · have HV := Lib.hid (show vld N n = false by unfold vld; simp [h3])
        go_wp2_with fail
        exact KEY.out h1 h2 HV.out _ _ _ _ _ _ _ _ _ _ _ _ _ _ _ _ _ _ _ _ _ _ _
    · go_wp2_with fail
      refine (knows_any _ HT.out).mono ?_
      rintro e w4 ⟨rfl, hb4⟩
      go_wp2
      go_ret
      exact ⟨rfl, hb4⟩
  · go_wp2_with fail
    refine (knows_any _ HT.out).mono ?_
    rintro e w4 ⟨rfl, hb4⟩
    go_wp2
    go_ret
    exact ⟨rfl, hb4⟩
end Go.Proofs.YtcnjpcmadkkhfaaDoor
