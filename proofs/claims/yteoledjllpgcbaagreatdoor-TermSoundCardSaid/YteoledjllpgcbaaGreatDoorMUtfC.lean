/- MUtfC: several texts of this claim in one file. No statement of the seat is proved here. -/
import Derived.Test.YteoledjllpgcbaaGreatDoorMUtfB
import Derived.Test.YteoledjllpgcbaaGreatDoorMUtfA
import Derived.Test.YteoledjllpgcbaaGreatDoorMBase
namespace Go.Proofs.YteoledjllpgcbaaGreatDoor.Ut
set_option maxRecDepth 100000
set_option maxHeartbeats 64000000
set_option linter.unusedVariables false
open Go.RowKit
def FirstPost (l : List UInt8) (w : World) (e : Ending) (w' : World) : Prop := e = .returned (.tuple #[.int .i64 (Utf.first l).1, .int .i64 ((Utf.first l).2 : Int)]) ∧ w = w'
theorem fp_bad {l : List UInt8} {w : World} (h : Utf.first l = (Utf.bad, 1)) : FirstPost l w (.returned (.tuple #[.int .i64 65533, .int .i64 1])) w := ⟨by rw [h]; rfl, rfl⟩
theorem fp_of {l : List UInt8} {w : World} {c n : Int} {m : Nat} (h : Utf.first l = (c, m)) (hm : (m : Int) = n) : FirstPost l w (.returned (.tuple #[.int .i64 c, .int .i64 n])) w := ⟨by rw [h, hm], rfl⟩
def Tail (T : List UInt8) (a c : Int) (k : Nat) : Prop := k ≤ T.length ∧ Utf.tails T a = Utf.tails (T.drop k) c ∧ 0 ≤ c ∧ (k = 0 → c < 32) ∧ (k = 1 → c < 2048) ∧ (k = 2 → c < 131072) ∧ c < 8388608
theorem tail_zero (T : List UInt8) (a : Int) (h0 : 0 ≤ a) (h1 : a < 32) : Tail T a a 0 := ⟨Nat.zero_le _, rfl, h0, fun _ => h1, fun h => by omega, fun h => by omega, by omega⟩
theorem tail_step {T : List UInt8} {a c : Int} {k : Nat} (h : Tail T a c k) (hk : k < T.length) (h3 : T.length ≤ 3) (hx : (T[k].toNat : Int) / 64 = 2) : Tail T a (c * 64 + (T[k].toNat : Int) % 64) (k + 1) := by
 obtain ⟨h1, h2, h0, b0, b1, b2, b3⟩ := h
 refine ⟨by omega, ?_, by omega, fun h => by omega, fun h => by omega, fun h => by omega, by omega⟩
 rw [h2, List.drop_eq_getElem_cons hk]
 show (if _ then _ else _) = _
 rw [if_pos hx]
theorem tail_bad {T : List UInt8} {a c : Int} {k : Nat} (h : Tail T a c k) (hk : k < T.length) (hx : ¬ (T[k].toNat : Int) / 64 = 2) : Utf.tails T a = none := by
 rw [h.2.1, List.drop_eq_getElem_cons hk]
 show (if _ then _ else _) = _
 rw [if_neg hx]
theorem tail_end {T : List UInt8} {a c : Int} (h : Tail T a c T.length) : Utf.tails T a = some c := by
 rw [h.2.1, List.drop_length]; rfl
theorem try_of {n : Nat} {a : Int} {t T : List UInt8} (hT : t.take (n - 1) = T) (hl : n ≤ t.length + 1) : Utf.try_ n a t = Utf.whole n (Utf.tails T a) := by
 unfold Utf.try_
 rw [if_neg (by omega), hT]
theorem whole_yes {n : Nat} {c : Int} (h1 : Utf.right c = true) (h2 : Utf.size c = n) : Utf.whole n (some c) = (c, n) := by
 show (if _ then _ else _) = _
 rw [if_pos ⟨h1, h2⟩]
theorem whole_no {n : Nat} {c : Int} (h : ¬ (Utf.right c = true ∧ Utf.size c = n)) : Utf.whole n (some c) = (Utf.bad, 1) := by
 show (if _ then _ else _) = _
 rw [if_neg h]
theorem first_any (A : Option Addr) (n c : Nat) (l : List UInt8) (w : World) (hr : Rd w w.heap.size A (l.map bv)) (hn : l.length = n) (hc : n ≤ c) (hm : c ≤ maxLen) (hp : l ≠ []) :
  Calls Tryz.prog 135 #[.slice A n c] w (FirstPost l w) := by
 rw [maxLen_eq] at hm
 match l, hp with
 | b0 :: t, _ =>
 obtain ⟨b, off, rfl, hb, hcell⟩ := hr (by simp)
 have h0 : w.cell? ⟨b, off, none⟩ = some (.int .u8 b0.toNat) := by simpa [bv] using hcell 0 (bv b0) (by simp)
 have hfc := Utf.first_cons b0 t
 obtain ⟨x, hx⟩ : ∃ x : Int, (b0.toNat : Int) = x := ⟨_, rfl⟩
 have hx0 : 0 ≤ x := by omega
 have hx1 : x < 256 := by have := b0.toNat_lt; omega
 rw [hx] at h0 hfc
 have HN := Lib.hid hn
 have hn1 : t.length + 1 ≤ n := by simp at hn; omega
 have hn2 : n ≤ t.length + 1 := by simp at hn; omega
 have hl' : (0:Int) < (n:Int) := by omega
 clear hcell hn hx
 by_cases g1 : x < 128
 ·
  rw [if_pos g1] at hfc
  have HF := Lib.hid hfc
  clear hfc
  go_enter Tryz.func135, Tryz.ntmps135
  go_wp2
  go_ret2
  exact fp_of HF.out rfl
 rw [if_neg g1] at hfc
 by_cases g2 : x / 32 = 6
 ·
  rw [if_pos g2] at hfc
  have e1 : bits .and .i64 x 31 = x % 32 := Bit.mask 5 x 31 32 hx0 (by omega) (by omega) rfl rfl
  by_cases hlen : n < 2
  ·
   have HF := Lib.hid (hfc.trans (by unfold Utf.try_; rw [if_pos (by omega)] : Utf.try_ 2 (x % 32) t = (Utf.bad, 1)))
   clear hfc
   go_enter Tryz.func135, Tryz.ntmps135
   go_wp2_with fail
   go_ret2
   exact fp_bad HF.out
  ·
   obtain ⟨T, hT⟩ : ∃ T, t.take 1 = T := ⟨_, rfl⟩
   have hTl : T.length = 1 := by rw [← hT, List.length_take]; omega
   have hTm : (((b0 :: t).map bv).take 2).drop 1 = T.map bv := by rw [← hT, ← List.map_take]; rfl
   have htr := hfc.trans (try_of (n := 2) hT (by omega))
   have h0' := tail_zero T (x % 32) (by omega) (by omega)
   have HF := Lib.hid htr; have HTL := Lib.hid hTl; have HTM := Lib.hid hTm
   clear hfc hT hTl hTm htr
   go_enter Tryz.func135, Tryz.ntmps135
   go_wp2_with (first | (refine wl_cut_lh rfl 28 (.tmp 38) (.const (.int .i64 1)) (.tmp 39) rfl 5 Tryz.underlying28 size_u8 (some ⟨b, off, none⟩) n c rfl .i64 .i64 1 2 rfl rfl (by omega) (by omega) (by omega) hc w.heap.size _ hr (by simpa using HN.out) ?_; intro A' hr'; have hr2 : Rd w w.heap.size A' (T.map bv) := Eq.mp (congrArg (Rd w w.heap.size A') HTM.out) hr'; clear hr') | fail)
   clear e1
   go_loop [4, 7, 42] (fun u _ i => ∃ (k : Nat) (d : Int), i = .int .i64 k ∧ u = .int .i64 d ∧ Tail T (x % 32) d k) (fun _ _ i => (2 - intOf i).toNat)
   case atStart => exact ⟨0, _, rfl, rfl, h0'⟩
   case round =>
    obtain ⟨k, d, rfl, rfl, ht⟩ := hrel
    obtain ⟨hd0, hd1⟩ : 0 ≤ d ∧ d < 8388608 := ⟨ht.2.2.1, ht.2.2.2.2.2.2⟩
    have hkT : k ≤ 1 := by have := ht.1; rw [HTL.out] at this; exact this
    by_cases hk : k < 1
    ·
     have hk' : k < T.length := by rw [HTL.out]; exact hk
     obtain ⟨b2, o2, rfl, _, hcell⟩ := hr2 (by intro e; rw [List.map_eq_nil_iff] at e; subst e; simp at hk')
     have hy : w.cell? ⟨b2, o2 + k, none⟩ = some (.int .u8 T[k].toNat) := hcell k (bv T[k]) (by simp [hk'])
     obtain ⟨y, hyy⟩ : ∃ y : Int, (T[k].toNat : Int) = y := ⟨_, rfl⟩
     have hy0 : 0 ≤ y := by omega
     have hy1 : y < 256 := by have := T[k].toNat_lt; omega
     rw [hyy] at hy
     have hstep := fun h => tail_step ht hk' (by rw [HTL.out]; omega) h
     have hbadd := fun h => tail_bad ht hk' h
     rw [hyy] at hstep hbadd
     clear hcell hyy
     by_cases g : y / 64 = 2
     ·
      have HST := Lib.hid (hstep g)
      clear hstep hbadd ht
      have f1 : bits .and .u8 y 63 = y % 64 := Bit.mask8 6 y 63 64 hy0 hy1 (by omega) rfl rfl
      have f2 : bits .or .i64 (d * 64) (y % 64) = d * 64 + y % 64 := Bit.join 6 _ _ 64 rfl (by omega) (by omega) (by omega) (by omega) (by omega) (by omega)
      go_wp2
      go_round
      case rel => exact ⟨k + 1, _, by go_num, rfl, HST.out⟩
      case measure => simp [intOf]; omega
     ·
      have HST := Lib.hid (HF.out.trans (by rw [hbadd g]; rfl : Utf.whole 2 (Utf.tails T (x % 32)) = (Utf.bad, 1)))
      clear hstep hbadd ht
      go_wp2
      go_ret2
      exact fp_bad HST.out
    ·
     obtain rfl : k = 1 := by omega
     have hend := tail_end (by rw [HTL.out]; exact ht)
     have hF2 := HF.out.trans (congrArg (Utf.whole 2) hend)
     clear ht hend
     by_cases hR : Utf.right d = true
     ·
      by_cases hS : Utf.size d = 2
      ·
       have HX := Lib.hid (hF2.trans (whole_yes hR hS))
       have HR := Lib.hid hR; have HS := Lib.hid hS
       clear hF2 hR hS
       go_wp2_with (first | (go_at_call 143; refine (right_any _ _).mono ?_; rintro e w' ⟨rfl, rfl⟩; rw [HR.out]) | (go_at_call 144; refine (size_any _ _).mono ?_; rintro e w' ⟨rfl, rfl⟩; rw [HS.out]))
       go_ret2
       exact fp_of HX.out rfl
      ·
       have HX := Lib.hid (hF2.trans (whole_no (fun h => hS h.2)))
       have hS' : (Utf.size d == 2) = false := by simpa using hS
       have HR := Lib.hid hR
       clear hF2 hR hS
       go_wp2_with (first | (go_at_call 143; refine (right_any _ _).mono ?_; rintro e w' ⟨rfl, rfl⟩; rw [HR.out]) | (go_at_call 144; refine (size_any _ _).mono ?_; rintro e w' ⟨rfl, rfl⟩))
       go_ret2
       exact fp_bad HX.out
     ·
      have HX := Lib.hid (hF2.trans (whole_no (fun h => hR h.1)))
      have HR := Lib.hid (by simpa using hR : Utf.right d = false)
      clear hF2 hR
      go_wp2_with (first | (go_at_call 143; refine (right_any _ _).mono ?_; rintro e w' ⟨rfl, rfl⟩; rw [HR.out]) | (go_at_call 144; refine (size_any _ _).mono ?_; rintro e w' ⟨rfl, rfl⟩))
      go_ret2
      exact fp_bad HX.out
 rw [if_neg g2] at hfc
 by_cases g3 : x / 16 = 14
 ·
  rw [if_pos g3] at hfc
  have e1 : bits .and .i64 x 15 = x % 16 := Bit.mask 4 x 15 16 hx0 (by omega) (by omega) rfl rfl
  by_cases hlen : n < 3
  ·
   have HF := Lib.hid (hfc.trans (by unfold Utf.try_; rw [if_pos (by omega)] : Utf.try_ 3 (x % 16) t = (Utf.bad, 1)))
   clear hfc
   go_enter Tryz.func135, Tryz.ntmps135
   go_wp2_with fail
   go_ret2
   exact fp_bad HF.out
  ·
   obtain ⟨T, hT⟩ : ∃ T, t.take 2 = T := ⟨_, rfl⟩
   have hTl : T.length = 2 := by rw [← hT, List.length_take]; omega
   have hTm : (((b0 :: t).map bv).take 3).drop 1 = T.map bv := by rw [← hT, ← List.map_take]; rfl
   have htr := hfc.trans (try_of (n := 3) hT (by omega))
   have h0' := tail_zero T (x % 16) (by omega) (by omega)
   have HF := Lib.hid htr; have HTL := Lib.hid hTl; have HTM := Lib.hid hTm
   clear hfc hT hTl hTm htr
   go_enter Tryz.func135, Tryz.ntmps135
   go_wp2_with (first | (refine wl_cut_lh rfl 28 (.tmp 38) (.const (.int .i64 1)) (.tmp 39) rfl 5 Tryz.underlying28 size_u8 (some ⟨b, off, none⟩) n c rfl .i64 .i64 1 3 rfl rfl (by omega) (by omega) (by omega) hc w.heap.size _ hr (by simpa using HN.out) ?_; intro A' hr'; have hr2 : Rd w w.heap.size A' (T.map bv) := Eq.mp (congrArg (Rd w w.heap.size A') HTM.out) hr'; clear hr') | fail)
   clear e1
   go_loop [4, 7, 42] (fun u _ i => ∃ (k : Nat) (d : Int), i = .int .i64 k ∧ u = .int .i64 d ∧ Tail T (x % 16) d k) (fun _ _ i => (3 - intOf i).toNat)
   case atStart => exact ⟨0, _, rfl, rfl, h0'⟩
   case round =>
    obtain ⟨k, d, rfl, rfl, ht⟩ := hrel
    obtain ⟨hd0, hd1⟩ : 0 ≤ d ∧ d < 8388608 := ⟨ht.2.2.1, ht.2.2.2.2.2.2⟩
    have hkT : k ≤ 2 := by have := ht.1; rw [HTL.out] at this; exact this
    by_cases hk : k < 2
    ·
     have hk' : k < T.length := by rw [HTL.out]; exact hk
     obtain ⟨b2, o2, rfl, _, hcell⟩ := hr2 (by intro e; rw [List.map_eq_nil_iff] at e; subst e; simp at hk')
     have hy : w.cell? ⟨b2, o2 + k, none⟩ = some (.int .u8 T[k].toNat) := hcell k (bv T[k]) (by simp [hk'])
     obtain ⟨y, hyy⟩ : ∃ y : Int, (T[k].toNat : Int) = y := ⟨_, rfl⟩
     have hy0 : 0 ≤ y := by omega
     have hy1 : y < 256 := by have := T[k].toNat_lt; omega
     rw [hyy] at hy
     have hstep := fun h => tail_step ht hk' (by rw [HTL.out]; omega) h
     have hbadd := fun h => tail_bad ht hk' h
     rw [hyy] at hstep hbadd
     clear hcell hyy
     by_cases g : y / 64 = 2
     ·
      have HST := Lib.hid (hstep g)
      clear hstep hbadd ht
      have f1 : bits .and .u8 y 63 = y % 64 := Bit.mask8 6 y 63 64 hy0 hy1 (by omega) rfl rfl
      have f2 : bits .or .i64 (d * 64) (y % 64) = d * 64 + y % 64 := Bit.join 6 _ _ 64 rfl (by omega) (by omega) (by omega) (by omega) (by omega) (by omega)
      go_wp2
      go_round
      case rel => exact ⟨k + 1, _, by go_num, rfl, HST.out⟩
      case measure => simp [intOf]; omega
     ·
      have HST := Lib.hid (HF.out.trans (by rw [hbadd g]; rfl : Utf.whole 3 (Utf.tails T (x % 16)) = (Utf.bad, 1)))
      clear hstep hbadd ht
      go_wp2
      go_ret2
      exact fp_bad HST.out
    ·
     obtain rfl : k = 2 := by omega
     have hend := tail_end (by rw [HTL.out]; exact ht)
     have hF2 := HF.out.trans (congrArg (Utf.whole 3) hend)
     clear ht hend
     by_cases hR : Utf.right d = true
     ·
      by_cases hS : Utf.size d = 3
      ·
       have HX := Lib.hid (hF2.trans (whole_yes hR hS))
       have HR := Lib.hid hR; have HS := Lib.hid hS
       clear hF2 hR hS
       go_wp2_with (first | (go_at_call 143; refine (right_any _ _).mono ?_; rintro e w' ⟨rfl, rfl⟩; rw [HR.out]) | (go_at_call 144; refine (size_any _ _).mono ?_; rintro e w' ⟨rfl, rfl⟩; rw [HS.out]))
       go_ret2
       exact fp_of HX.out rfl
      ·
       have HX := Lib.hid (hF2.trans (whole_no (fun h => hS h.2)))
       have hS' : (Utf.size d == 3) = false := by simpa using hS
       have HR := Lib.hid hR
       clear hF2 hR hS
       go_wp2_with (first | (go_at_call 143; refine (right_any _ _).mono ?_; rintro e w' ⟨rfl, rfl⟩; rw [HR.out]) | (go_at_call 144; refine (size_any _ _).mono ?_; rintro e w' ⟨rfl, rfl⟩))
       go_ret2
       exact fp_bad HX.out
     ·
      have HX := Lib.hid (hF2.trans (whole_no (fun h => hR h.1)))
      have HR := Lib.hid (by simpa using hR : Utf.right d = false)
      clear hF2 hR
      go_wp2_with (first | (go_at_call 143; refine (right_any _ _).mono ?_; rintro e w' ⟨rfl, rfl⟩; rw [HR.out]) | (go_at_call 144; refine (size_any _ _).mono ?_; rintro e w' ⟨rfl, rfl⟩))
      go_ret2
      exact fp_bad HX.out
 rw [if_neg g3] at hfc
 by_cases g4 : x / 8 = 30
 ·
  rw [if_pos g4] at hfc
  have e1 : bits .and .i64 x 7 = x % 8 := Bit.mask 3 x 7 8 hx0 (by omega) (by omega) rfl rfl
  by_cases hlen : n < 4
  ·
   have HF := Lib.hid (hfc.trans (by unfold Utf.try_; rw [if_pos (by omega)] : Utf.try_ 4 (x % 8) t = (Utf.bad, 1)))
   clear hfc
   go_enter Tryz.func135, Tryz.ntmps135
   go_wp2_with fail
   go_ret2
   exact fp_bad HF.out
  ·
   obtain ⟨T, hT⟩ : ∃ T, t.take 3 = T := ⟨_, rfl⟩
   have hTl : T.length = 3 := by rw [← hT, List.length_take]; omega
   have hTm : (((b0 :: t).map bv).take 4).drop 1 = T.map bv := by rw [← hT, ← List.map_take]; rfl
   have htr := hfc.trans (try_of (n := 4) hT (by omega))
   have h0' := tail_zero T (x % 8) (by omega) (by omega)
   have HF := Lib.hid htr; have HTL := Lib.hid hTl; have HTM := Lib.hid hTm
   clear hfc hT hTl hTm htr
   go_enter Tryz.func135, Tryz.ntmps135
   go_wp2_with (first | (refine wl_cut_lh rfl 28 (.tmp 38) (.const (.int .i64 1)) (.tmp 39) rfl 5 Tryz.underlying28 size_u8 (some ⟨b, off, none⟩) n c rfl .i64 .i64 1 4 rfl rfl (by omega) (by omega) (by omega) hc w.heap.size _ hr (by simpa using HN.out) ?_; intro A' hr'; have hr2 : Rd w w.heap.size A' (T.map bv) := Eq.mp (congrArg (Rd w w.heap.size A') HTM.out) hr'; clear hr') | fail)
   clear e1
   go_loop [4, 7, 42] (fun u _ i => ∃ (k : Nat) (d : Int), i = .int .i64 k ∧ u = .int .i64 d ∧ Tail T (x % 8) d k) (fun _ _ i => (4 - intOf i).toNat)
   case atStart => exact ⟨0, _, rfl, rfl, h0'⟩
   case round =>
    obtain ⟨k, d, rfl, rfl, ht⟩ := hrel
    obtain ⟨hd0, hd1⟩ : 0 ≤ d ∧ d < 8388608 := ⟨ht.2.2.1, ht.2.2.2.2.2.2⟩
    have hkT : k ≤ 3 := by have := ht.1; rw [HTL.out] at this; exact this
    by_cases hk : k < 3
    ·
     have hk' : k < T.length := by rw [HTL.out]; exact hk
     obtain ⟨b2, o2, rfl, _, hcell⟩ := hr2 (by intro e; rw [List.map_eq_nil_iff] at e; subst e; simp at hk')
     have hy : w.cell? ⟨b2, o2 + k, none⟩ = some (.int .u8 T[k].toNat) := hcell k (bv T[k]) (by simp [hk'])
     obtain ⟨y, hyy⟩ : ∃ y : Int, (T[k].toNat : Int) = y := ⟨_, rfl⟩
     have hy0 : 0 ≤ y := by omega
     have hy1 : y < 256 := by have := T[k].toNat_lt; omega
     rw [hyy] at hy
     have hstep := fun h => tail_step ht hk' (by rw [HTL.out]; omega) h
     have hbadd := fun h => tail_bad ht hk' h
     rw [hyy] at hstep hbadd
     clear hcell hyy
     by_cases g : y / 64 = 2
     ·
      have HST := Lib.hid (hstep g)
      clear hstep hbadd ht
      have f1 : bits .and .u8 y 63 = y % 64 := Bit.mask8 6 y 63 64 hy0 hy1 (by omega) rfl rfl
      have f2 : bits .or .i64 (d * 64) (y % 64) = d * 64 + y % 64 := Bit.join 6 _ _ 64 rfl (by omega) (by omega) (by omega) (by omega) (by omega) (by omega)
      go_wp2
      go_round
      case rel => exact ⟨k + 1, _, by go_num, rfl, HST.out⟩
      case measure => simp [intOf]; omega
     ·
      have HST := Lib.hid (HF.out.trans (by rw [hbadd g]; rfl : Utf.whole 4 (Utf.tails T (x % 8)) = (Utf.bad, 1)))
      clear hstep hbadd ht
      go_wp2
      go_ret2
      exact fp_bad HST.out
    ·
     obtain rfl : k = 3 := by omega
     have hend := tail_end (by rw [HTL.out]; exact ht)
     have hF2 := HF.out.trans (congrArg (Utf.whole 4) hend)
     clear ht hend
     by_cases hR : Utf.right d = true
     ·
      by_cases hS : Utf.size d = 4
      ·
       have HX := Lib.hid (hF2.trans (whole_yes hR hS))
       have HR := Lib.hid hR; have HS := Lib.hid hS
       clear hF2 hR hS
       go_wp2_with (first | (go_at_call 143; refine (right_any _ _).mono ?_; rintro e w' ⟨rfl, rfl⟩; rw [HR.out]) | (go_at_call 144; refine (size_any _ _).mono ?_; rintro e w' ⟨rfl, rfl⟩; rw [HS.out]))
       go_ret2
       exact fp_of HX.out rfl
      ·
       have HX := Lib.hid (hF2.trans (whole_no (fun h => hS h.2)))
       have hS' : (Utf.size d == 4) = false := by simpa using hS
       have HR := Lib.hid hR
       clear hF2 hR hS
       go_wp2_with (first | (go_at_call 143; refine (right_any _ _).mono ?_; rintro e w' ⟨rfl, rfl⟩; rw [HR.out]) | (go_at_call 144; refine (size_any _ _).mono ?_; rintro e w' ⟨rfl, rfl⟩))
       go_ret2
       exact fp_bad HX.out
     ·
      have HX := Lib.hid (hF2.trans (whole_no (fun h => hR h.1)))
      have HR := Lib.hid (by simpa using hR : Utf.right d = false)
      clear hF2 hR
      go_wp2_with (first | (go_at_call 143; refine (right_any _ _).mono ?_; rintro e w' ⟨rfl, rfl⟩; rw [HR.out]) | (go_at_call 144; refine (size_any _ _).mono ?_; rintro e w' ⟨rfl, rfl⟩))
      go_ret2
      exact fp_bad HX.out
 rw [if_neg g4] at hfc
 have HF := Lib.hid hfc
 clear hfc
 have k2 : (x / 32 == 6) = false := by simpa using g2
 have k3 : (x / 16 == 14) = false := by simpa using g3
 have k4 : (x / 8 == 30) = false := by simpa using g4
 clear g2 g3 g4
 go_enter Tryz.func135, Tryz.ntmps135
 go_wp2
 go_ret2
 exact fp_bad HF.out
end Go.Proofs.YteoledjllpgcbaaGreatDoor.Ut
namespace Go.Proofs.YteoledjllpgcbaaGreatDoor.Ut
set_option maxRecDepth 100000
set_option maxHeartbeats 64000000
set_option linter.unusedVariables false
open Go.RowKit
def lenV : Value → Nat | .slice _ n _ => n | _ => 0
def DecPost (l : List UInt8) (w : World) (e : Ending) (w' : World) : Prop :=
 ∃ v, e = .returned v ∧ w'.ownsRow w.heap.size 3 1 v (Utf.dec l).length ((Utf.dec l).map iv) ∧ Below w.heap.size w w'
structure DecRel (l : List UInt8) (w : World) (A : Option Addr) (n c : Nat) (rest : List UInt8) (v : Value) (done : List Int) (wr : World) : Prop where
 rd : Rd wr w.heap.size A (rest.map bv)
 len : rest.length = n
 cap : n ≤ c
 max : c ≤ maxLen
 own : wr.ownsRow w.heap.size 3 1 v done.length (done.map iv)
 val : Utf.dec l = done ++ Utf.dec rest
 size : done.length + rest.length ≤ l.length
 bel : Below w.heap.size w wr
theorem dec_round {l : List UInt8} {w : World} {A A' : Option Addr} {n c : Nat} {rest : List UInt8} {v v' : Value} {done : List Int} {wr w' : World} {x : Int} {s : Nat} (h : DecRel l w A n c rest v done wr) (hp : rest ≠ [])
  (hf : Utf.first rest = (x, s)) (hr : Rd w' w.heap.size A' ((rest.map bv).drop s)) (ho : w'.ownsRow w.heap.size 3 1 v' (done.length + 1) (done.map iv ++ [iv x])) (hb : Below w.heap.size wr w') :
  DecRel l w A' (n - s) (c - s) (rest.drop s) v' (done ++ [x]) w' := by
 have h0 := Utf.first_pos rest
 have h1 := Utf.first_le rest hp
 rw [hf] at h0 h1
 have hn := h.len
 have hc := h.cap
 have hm := h.max
 refine ⟨by rw [List.map_drop]; exact hr, by rw [List.length_drop]; omega, by omega, by omega, by simpa using ho, ?_, ?_, h.bel.trans hb⟩
 · rw [h.val, Utf.dec_step rest hp, hf]; simp
 ·
  have := h.size
  simp only [List.length_append, List.length_cons, List.length_nil, List.length_drop]
  simp only at h0 h1
  omega
theorem decode_any (A : Option Addr) (n c : Nat) (l : List UInt8) (w : World) (hr : Rd w w.heap.size A (l.map bv)) (hn : l.length = n) (hc : n ≤ c) (hm : c ≤ maxLen) (hsz : l.length ≤ 1099511627776) :
  Calls Tryz.prog 114 #[.slice A n c] w (DecPost l w) := by
 have h0 : DecRel l w A n c l (.slice none 0 0) [] w := ⟨hr, hn, hc, hm, World.ownsRow_nil _ _ _ _, rfl, by simp, Below.refl _ _⟩
 clear hr hn hc hm
 go_enter Tryz.func114, Tryz.ntmps114
 go_wp2
 go_loopw [0, 3] (fun b v wr => ∃ (A : Option Addr) (n c : Nat) (rest : List UInt8) (done : List Int), b = .slice A n c ∧ DecRel l w A n c rest v done wr) (fun b _ _ => lenV b)
 case atStart => exact ⟨_, _, _, _, _, rfl, h0⟩
 case round =>
  clear h0
  obtain ⟨A, n, c, rest, done, rfl, h⟩ := hrel
  by_cases hp : rest = []
  ·
   subst hp
   have hn0 : n = 0 := by have := h.len; simpa using this.symm
   subst hn0
   have hval : Utf.dec l = done := by have := h.val; rw [Utf.dec_nil, List.append_nil] at this; exact this
   have HD := Lib.hid hval
   clear hval
   go_wp2
   go_ret
   exact ⟨_, rfl, by rw [HD.out]; exact h.own, h.bel⟩
  ·
   obtain ⟨x, s, hfx⟩ : ∃ x s, Utf.first rest = (x, s) := ⟨_, _, rfl⟩
   have hpos := Utf.first_pos rest
   have hle := Utf.first_le rest hp
   rw [hfx] at hpos hle
   simp only at hpos hle
   have hln := h.len
   have hn1 : (0:Int) < (n : Int) := by have := List.length_pos_iff.2 hp; omega
   have hs0 : 0 < s := hpos
   have hs1 : s ≤ n := by omega
   have hcap := h.cap
   have hmax := h.max
   have hsize := h.size
   have hB : w.heap.size ≤ wr.heap.size := h.bel.size
   have hrd : Rd wr wr.heap.size A (rest.map bv) := h.rd.more hB
   have HFX := Lib.hid hfx
   have HLN := Lib.hid hln
   have HP := Lib.hid hp
   have HH := Lib.hid h
   rw [maxLen_eq] at hmax
   clear hfx hln hp h hpos hle
   go_wp2_with (first
    | (go_at_call 135; refine (first_any A n c rest _ hrd HLN.out hcap (by rw [maxLen_eq]; exact hmax) HP.out).mono ?_; rintro e w' ⟨rfl, rfl⟩; rw [HFX.out])
    | (at_builtin; refine wl_app rfl (.tmp 14) (.tmp 16) 43 rfl w.heap.size 3 1 8 intsT _ done.length (done.map iv) rfl (HH.out.own.alloc _) (wr.heap.size + 1) (some ⟨wr.heap.size, 0, none⟩) 1 1 [iv x] rfl (rd_new wr [iv x] 3 (0, 0)) rfl (by simp [iv, Value.oneCell']) (by rw [maxLen_eq]; omega) (by omega) (by simp; omega) ?_; intro A1 c1 w1 hown1 hg1 hat1 hb1 hc1 hc2; have hb2 : Below w.heap.size wr w1 := ((Below.refl _ _).alloc hB _).trans hb1; have hrd2 : Rd w1 w.heap.size A (rest.map bv) := HH.out.rd.below hb2; clear hg1 hat1 hb1 hc1 hc2)
    | (refine wl_cut_lo rfl 28 (.tmp 18) (.tmp 19) rfl 5 Tryz.underlying28 size_u8 A n c rfl .i64 (s : Int) rfl (by omega) (by omega) hcap w.heap.size _ hrd2 (by simpa using HLN.out) ?_; intro A' hr'))
   go_roundw
   case rel => exact ⟨_, _, _, _, _, rfl, dec_round HH.out HP.out HFX.out hr' hown1 hb2⟩
   case measure => simp [lenV]; omega
end Go.Proofs.YteoledjllpgcbaaGreatDoor.Ut
namespace Go.Proofs.YteoledjllpgcbaaGreatDoor.Ut
set_option maxRecDepth 100000
set_option maxHeartbeats 64000000
set_option linter.unusedVariables false
open Go.RowKit
theorem least_any (a b : Int) (w : World) (h : a ≤ b) : Calls Tryz.prog 82 #[.int .i64 a, .int .i64 b] w fun e w' => e = .returned (.int .i64 a) ∧ w = w' := by
 by_cases h2 : a < b
 ·
  go_enter Tryz.func82, Tryz.ntmps82
  go_wp2
  go_ret
  exact ⟨rfl, rfl⟩
 ·
  obtain rfl : a = b := by omega
  go_enter Tryz.func82, Tryz.ntmps82
  go_wp2
  go_ret
  exact ⟨rfl, rfl⟩
def UBegPost (l : List UInt8) (k : Nat) (w : World) (e : Ending) (w' : World) : Prop := e = .returned (.int .i64 (Utf.beg l k)) ∧ Below w.heap.size w w' ∧ -134217728 ≤ Utf.beg l k ∧ Utf.beg l k ≤ 134217728
def BRel (T : List UInt8) (c0 c : Int) (j : Nat) : Prop := j ≤ T.length ∧ Utf.begF T c0 = Utf.begF (T.drop j) c ∧ (j = 0 → -256 ≤ c ∧ c ≤ 256) ∧ (j = 1 → -20000 ≤ c ∧ c ≤ 20000) ∧ (j = 2 → -1300000 ≤ c ∧ c ≤ 1300000) ∧ (j = 3 → -84000000 ≤ c ∧ c ≤ 84000000)
theorem brel_step {T : List UInt8} {c0 c : Int} {j : Nat} (h : BRel T c0 c j) (hj : j < T.length) (h3 : T.length ≤ 3) : BRel T c0 (c * 64 + (T[j].toNat : Int) - 128) (j + 1) := by
 obtain ⟨h1, h2, b0, b1, b2, b3⟩ := h
 have := T[j].toNat_lt
 refine ⟨hj, by rw [h2, Utf.begF_step T j hj], fun h => by omega, fun h => by omega, fun h => by omega, fun h => by omega⟩
theorem brel_bd {T : List UInt8} {c0 c : Int} {j : Nat} (h : BRel T c0 c j) (h3 : T.length ≤ 3) : -84000000 ≤ c ∧ c ≤ 84000000 := by
 obtain ⟨h1, h2, b0, b1, b2, b3⟩ := h
 rcases Nat.lt_or_ge j 1 with g | g
 · have := b0 (by omega); omega
 rcases Nat.lt_or_ge j 2 with g2 | g2
 · have := b1 (by omega); omega
 rcases Nat.lt_or_ge j 3 with g3 | g3
 · have := b2 (by omega); omega
 · have := b3 (by omega); omega
theorem lead_cell (w : World) (k : Nat) (h1 : 1 ≤ k) (h4 : k ≤ 4) : (w.alloc (.cells #[.int .i64 0, .int .i64 0, .int .i64 192, .int .i64 224, .int .i64 240] 3)).cell? ⟨w.heap.size, k, none⟩ = some (.int .i64 (Utf.lead k)) := by
 rw [cell_of_row _ _ _ _ _ _ (heap_alloc_new w _)]
 have : k = 1 ∨ k = 2 ∨ k = 3 ∨ k = 4 := by omega
 rcases this with rfl | rfl | rfl | rfl <;> rfl
theorem lead_bd (k : Nat) : 0 ≤ Utf.lead k ∧ Utf.lead k ≤ 240 := by
 unfold Utf.lead
 split <;> (try split) <;> (try split) <;> omega
theorem begins_any (A : Option Addr) (n c : Nat) (l : List UInt8) (k : Nat) (w : World) (hr : Rd w w.heap.size A (l.map bv)) (hn : l.length = n) (hc : n ≤ c) (hm : c ≤ maxLen) (hp : l ≠ []) (k1 : 1 ≤ k) (k4 : k ≤ 4) :
  Calls Tryz.prog 79 #[.slice A n c, .int .i64 (k : Int)] w (UBegPost l k w) := by
 rw [maxLen_eq] at hm
 by_cases hs : n < k
 ·
  have hb := Utf.beg_short l k (by omega)
  have HB := Lib.hid hb
  have hs' : (n : Int) < (k : Int) := by omega
  clear hr hn hb hp
  go_enter Tryz.func79, Tryz.ntmps79
  go_wp2
  go_ret
  exact ⟨by rw [HB.out]; simp, Below.refl _ _, by rw [HB.out]; omega, by rw [HB.out]; omega⟩
 ·
  match l, hp with
  | b0 :: t, _ =>
  obtain ⟨b, off, rfl, hlt, hcell⟩ := hr (by simp)
  have h0 : w.cell? ⟨b, off, none⟩ = some (.int .u8 b0.toNat) := by simpa [bv] using hcell 0 (bv b0) (by simp)
  have hcl : ∀ j (hj : j < t.length), w.cell? ⟨b, off + (j + 1), none⟩ = some (.int .u8 t[j].toNat) := fun j hj => by
   have := hcell (j + 1) (bv t[j]) (by simp [hj])
   exact this
  have hbeg : Utf.beg (b0 :: t) k = Utf.begF (t.take (k - 1)) ((b0.toNat : Int) - Utf.lead k) := by
   rw [Utf.beg_cons, if_neg (by simp at hn; omega)]
  obtain ⟨T, hT⟩ : ∃ T, t.take (k - 1) = T := ⟨_, rfl⟩
  rw [hT] at hbeg
  have hTl : T.length = k - 1 := by rw [← hT, List.length_take]; simp at hn; omega
  have hTc : ∀ j (hj : j < T.length), w.cell? ⟨b, off + (j + 1), none⟩ = some (.int .u8 T[j].toNat) := fun j hj => by
   have hj' : j < t.length := by rw [← hT, List.length_take] at hj; omega
   have e : T[j] = t[j] := by
    have : T[j]? = t[j]? := by rw [← hT, List.getElem?_take]; rw [if_pos (by omega)]
    rw [List.getElem?_eq_getElem hj, List.getElem?_eq_getElem hj'] at this
    injection this
   rw [e]; exact hcl j hj'
  obtain ⟨x, hx⟩ : ∃ x : Int, (b0.toNat : Int) = x := ⟨_, rfl⟩
  have hx0 : 0 ≤ x := by omega
  have hx1 : x < 256 := by have := b0.toNat_lt; omega
  rw [hx] at h0 hbeg
  have hld := lead_cell w k k1 k4
  have hlb := lead_bd k
  obtain ⟨q, hq⟩ : ∃ q, Utf.lead k = q := ⟨_, rfl⟩
  rw [hq] at hld hlb hbeg
  obtain ⟨q0, q1⟩ := hlb
  have hrel0 : BRel T (x - q) (x - q) 0 := ⟨Nat.zero_le _, rfl, fun _ => by omega, fun h => by omega, fun h => by omega, fun h => by omega⟩
  have hn0 : (0 : Int) < (n : Int) := by simp at hn; omega
  have h0a : (w.alloc (.cells #[.int .i64 0, .int .i64 0, .int .i64 192, .int .i64 224, .int .i64 240] 3)).cell? ⟨b, off, none⟩ = some (.int .u8 x) := by rw [World.cell?_alloc_lt _ _ _ (by exact hlt)]; exact h0
  have HREL := Lib.hid hrel0; have HBEG := Lib.hid hbeg; have HTC := Lib.hid hTc; have HTL := Lib.hid hTl
  have k1' : (1 : Int) ≤ (k : Int) := by omega
  have k4' : (k : Int) ≤ 4 := by omega
  have hs2 : (k : Int) ≤ (n : Int) := by omega
  clear hcell hcl hbeg hT hTl hTc hx hq hrel0 hn h0 hr hs
  go_enter Tryz.func79, Tryz.ntmps79
  go_wp2_with fail
  go_region
  clear h0a hld
  go_wp2_with fail
  go_loop [6, 7] (fun u i => ∃ (j : Nat) (d : Int), i = .int .i64 ((j : Int) + 1) ∧ u = .int .i64 d ∧ BRel T (x - q) d j) (fun _ i => (k - (intOf i).toNat))
  case atStart => exact ⟨0, _, rfl, rfl, HREL.out⟩
  case round =>
   obtain ⟨j, d, rfl, rfl, hrel⟩ := hrel
   have hbd := brel_bd hrel (by rw [HTL.out]; omega)
   obtain ⟨d0, d1⟩ := hbd
   have hjT : j + 1 ≤ k := by have := hrel.1; rw [HTL.out] at this; omega
   by_cases hj : j + 1 < k
   ·
    have hj' : j < T.length := by rw [HTL.out]; omega
    have hy := HTC.out j hj'
    have hst := brel_step hrel hj' (by rw [HTL.out]; omega)
    obtain ⟨y, hyy⟩ : ∃ y : Int, (T[j].toNat : Int) = y := ⟨_, rfl⟩
    have y0 : 0 ≤ y := by omega
    have y1 : y < 256 := by have := T[j].toNat_lt; omega
    rw [hyy] at hy hst
    have HST := Lib.hid hst
    have hya : (w.alloc (.cells #[.int .i64 0, .int .i64 0, .int .i64 192, .int .i64 224, .int .i64 240] 3)).cell? ⟨b, off + (j + 1), none⟩ = some (.int .u8 y) := by rw [World.cell?_alloc_lt _ _ _ (by exact hlt)]; exact hy
    have hj2 : (j : Int) + 1 < (k : Int) := by omega
    clear hst hyy hy hrel
    go_wp2
    go_round
    case rel => exact ⟨j + 1, _, by go_num, rfl, HST.out⟩
    case measure => simp [intOf]; omega
   ·
    obtain rfl : k = j + 1 := by omega
    have hT : T.length = j := by have := HTL.out; omega
    have hv : Utf.beg (b0 :: t) (j + 1) = d := by
     rw [HBEG.out, hrel.2.1, ← hT, List.drop_length]; rfl
    have HV := Lib.hid hv
    clear hv hT hrel
    go_wp2
    go_ret
    exact ⟨by rw [HV.out]; simp, ((Below.refl _ _).alloc (Nat.le_refl _) _).drew, by rw [HV.out]; omega, by rw [HV.out]; omega⟩
end Go.Proofs.YteoledjllpgcbaaGreatDoor.Ut
namespace Go.Proofs.YteoledjllpgcbaaGreatDoor.Ut
set_option maxRecDepth 100000
set_option maxHeartbeats 64000000
set_option linter.unusedVariables false
open Go.RowKit
structure RRel (l : List UInt8) (w : World) (v : Value) (i : Nat) (done : List Int) (wr : World) : Prop where
 le : i ≤ l.length
 own : wr.ownsRow w.heap.size 3 1 v done.length (done.map iv)
 val : Utf.dec l = done ++ Utf.dec (l.drop i)
 size : done.length ≤ i
 bel : Below w.heap.size w wr
def RDecPost (l : List UInt8) (w : World) (e : Ending) (w' : World) : Prop :=
 ∃ v, e = .returned v ∧ w'.ownsRow w.heap.size 3 1 v (Utf.dec l).length ((Utf.dec l).map iv) ∧ Below w.heap.size w w'
theorem best_bd {l : List UInt8} {k : Nat} {c : Int} {n : Nat} (h : Utf.Best l k c n) (hk : k ≤ 5) (hl : l ≠ []) : 0 < n ∧ n ≤ 4 ∧ n ≤ l.length := by
 have := List.length_pos_iff.2 hl
 rcases h with ⟨j, h1, h2, _, h4⟩ | ⟨_, _, h3⟩
 ·
  have h5 := Utf.right_long l j h2.1
  have h6 := Utf.hit_first l j h2
  have h7 := Utf.first_pos l
  rw [h6] at h7
  simp only at h7
  omega
 · omega
theorem rdecode_any (A : Option Addr) (n c : Nat) (l : List UInt8) (w : World) (hr : Rd w w.heap.size A (l.map bv)) (hn : l.length = n) (hc : n ≤ c) (hm : c ≤ maxLen) (hsz : n ≤ 1099511627776) :
  Calls Tryz.prog 35 #[.slice A n c] w (RDecPost l w) := by
 have h0 : RRel l w (.slice none 0 0) 0 [] w := ⟨Nat.zero_le _, World.ownsRow_nil _ _ _ _, rfl, Nat.le_refl _, Below.refl _ _⟩
 have HR := Lib.hid hr; have HN := Lib.hid hn; have HM := Lib.hid hm
 rw [maxLen_eq] at hm
 clear hr hn
 go_enter Tryz.func35, Tryz.ntmps35
 go_wp2_with fail
 go_loopw [3, 4] (fun v i wr => ∃ (k : Nat) (done : List Int), i = .int .i64 k ∧ RRel l w v k done wr) (fun _ i _ => n - (intOf i).toNat)
 case atStart => exact ⟨0, _, rfl, h0⟩
 case round =>
  clear h0
  obtain ⟨i, done, rfl, h⟩ := hrel
  have hle := h.le
  have hB : w.heap.size ≤ wr.heap.size := h.bel.size
  have hds := h.size
  have HH := Lib.hid h
  have hin : i ≤ n := by have := HN.out; omega
  clear h hle
  by_cases hi : i < n
  ·
   obtain ⟨R, hR⟩ : ∃ R, l.drop i = R := ⟨_, rfl⟩
   have hRl : R.length = n - i := by rw [← hR, List.length_drop, HN.out]
   have hRne : R ≠ [] := by intro e; rw [e] at hRl; simp at hRl; omega
   obtain ⟨b, off, hA, hlt, hcell⟩ := HR.out (by intro e; simp at e; subst e; have := HN.out; simp at this; omega)
   subst hA
   have hrR : Rd w w.heap.size (some ⟨b, off + i, none⟩) (R.map bv) := by
    have := HR.out.drop i
    rw [← List.map_drop, hR] at this
    by_cases hi0 : i = 0
    · subst hi0; simpa [Addr.add] using this
    · simpa [Addr.add, hi0] using this
   have HRR := Lib.hid hrR; have HRL := Lib.hid hRl; have HRN := Lib.hid hRne; have HRE := Lib.hid hR
   clear hcell hrR hRl hRne hR
   go_wp2_with fail
   obtain ⟨wo, rfl⟩ : ∃ wo : World, wo = wr := ⟨_, rfl⟩
   go_loopw [5, 6, 7] (fun cc nn kk wx => ∃ (k : Nat) (d : Int) (m : Nat), kk = .int .i64 k ∧ cc = .int .i64 d ∧ nn = .int .i64 m ∧ 1 ≤ k ∧ k ≤ 5 ∧ Utf.Best R k d m ∧ Below wo.heap.size wo wx) (fun _ _ kk _ => 5 - (intOf kk).toNat)
   case atStart => exact ⟨1, _, 1, rfl, rfl, rfl, by omega, by omega, Utf.best_start R, Below.refl _ _⟩
   case round =>
    obtain ⟨k, d, m, rfl, rfl, rfl, k1, k5, hbest, hbw⟩ := hrel
    have HBE := Lib.hid hbest; have HBW := Lib.hid hbw
    have hz : wo.heap.size ≤ wr.heap.size := hbw.size
    clear hbest hbw
    have hrd : Rd wr w.heap.size (some ⟨b, off, none⟩) (l.map bv) := (HR.out.below HH.out.bel).below' HBW.out hB
    have HRD := Lib.hid hrd
    clear hrd
    by_cases hk : k ≤ 4
    ·
     have hk' : (k : Int) ≤ 4 := by omega
     have k1' : (1 : Int) ≤ (k : Int) := by omega
     obtain ⟨x, hx⟩ : ∃ x, Utf.beg R k = x := ⟨_, rfl⟩
     have HX := Lib.hid hx
     clear hx
     go_wp2_with (first
      | (refine wl_cut_lo rfl 28 (.tmp 17) (.tmp 18) rfl 5 Tryz.underlying28 size_u8 (some ⟨b, off, none⟩) n c rfl .i64 (i : Int) rfl (by omega) (by omega) hc w.heap.size _ HRD.out (by simpa using HN.out) ?_; intro A' hr'; have hr2 : Rd wr wr.heap.size A' (R.map bv) := (by have h := hr'; rw [Int.toNat_natCast, ← List.map_drop, HRE.out] at h; exact h.more (by omega)); have HR2 := Lib.hid hr2; clear hr' hr2)
      | (go_at_call 79; (with_reducible refine (begins_any A' (n - i) (c - i) R k wr HR2.out HRL.out (by omega) (by rw [maxLen_eq]; omega) HRN.out k1 hk).mono ?_); rintro e w1 ⟨rfl, hb1, x0, x1⟩; rw [HX.out] at x0 x1; rw [HX.out]; have HB1 := Lib.hid (HBW.out.trans (hb1.mono hz)); have hz1 := hb1.size; clear hb1)
      | fail)
     have hw1 : w.heap.size ≤ w1.heap.size := by omega
     by_cases hrx : Utf.right x = true
     ·
      have hkn : k ≤ n - i := by
       have := Utf.right_long R k (by rw [HX.out]; exact hrx)
       rw [HRL.out] at this; exact this
      have hle2 : (i : Int) + (k : Int) ≤ (n : Int) := by omega
      have hwr : IntKind.i64.wrap ((i : Int) + (k : Int)) = (i : Int) + (k : Int) := IntWalk.i64_in _ (by omega)
      have hic : ¬ c = i := by omega
      have hcc : (i : Int) + (k : Int) ≤ (c : Int) := by omega
      have hit := Utf.hit_iff HX.out hrx
      have HIT := Lib.hid hit
      have HRX := Lib.hid hrx
      have hrk : Rd w1 w.heap.size (some ⟨b, off + i, none⟩) ((R.take k).map bv) := by
       rw [List.map_take]
       exact ((HRR.out.below HH.out.bel).below' HB1.out hB).take k
      have HRk := Lib.hid hrk
      have HRkl := Lib.hid (by rw [List.length_take, HRL.out]; omega : (R.take k).length = k)
      clear hit hrx hrk
      have hsl : ∀ W : World, (Instr.sliceAt 28 (.slice (some ⟨b, off, none⟩) n c) (some (.int .i64 (i : Int))) (some (.int .i64 ((i : Int) + (k : Int)))) none).run Tryz.prog W = .ok (.slice (some ⟨b, off + i, none⟩) k (c - i)) W := fun W => by
       have h := run_cut (P := Tryz.prog) (w := W) 28 5 Tryz.underlying28 size_u8 b off n c i (i + k) .i64 .i64 (i : Int) ((i : Int) + (k : Int)) rfl (by omega) (by omega) (by omega) (by omega)
       rw [show i + k - i = k by omega] at h
       exact h
      refine Free.wp_free_l 18 (fun W => Below w1.heap.size w1 W) [Free.kc (.int .i64 x), Free.kc (.bool true), Free.kc (.bool true), Free.kc (.int .i64 x), Free.kr ((Utf.enc x).length) ((Utf.enc x).map bv), Free.kc (.string (str (Utf.enc x))), Free.kc (.slice (some ⟨b, off, none⟩) n c), Free.kc (.int .i64 (i : Int)), Free.kc (.int .i64 (i : Int)), Free.kc (.int .i64 (k : Int)), Free.kc (.int .i64 ((i : Int) + (k : Int))), Free.kc (.slice (some ⟨b, off, none⟩) n c), Free.kc (.int .i64 (n : Int)), Free.kc (.int .i64 ((i : Int) + (k : Int))), Free.kc (.slice (some ⟨b, off + i, none⟩) k (c - i)), Free.kc (.string (str (R.take k))), Free.kc (.bool (decide (Utf.enc x = R.take k))), Free.kc (.bool (decide (Utf.enc x = R.take k)))] (by kernel_rfl) (by kernel_rfl) (by decide) (Below.refl _ _).drew (fun w w' h g => bt h g) ?_ ?_
      ·
       iterate 18 refine Free.forall_succ ?_ ?_
       all_goals first | exact Free.forall_zero | (refine Free.op fun vals wq hC hd => ?_) | skip
       · exact Free.dm
       · exact Free.d_call Tryz.func80 (by kernel_rfl) (by kernel_rfl) rfl rfl (Free.arg1 (Free.tr 0 hd)) ((rright_any x wq).mono fun e w2 h => ⟨_, h.1, (by rw [HRX.out]; rfl), (by have h2 := h.2; subst h2; exact Below.refl _ _)⟩)
       · exact Free.d_move rfl (Free.tr 1 hd) rfl
       · refine Free.og 2 24 true fun vals wq hC hd => ?_; exact Free.d_move rfl (by kernel_rfl) rfl
       · refine Free.og 2 24 true fun vals wq hC hd => ?_; exact Free.d_call Tryz.func81 (by kernel_rfl) (by kernel_rfl) rfl rfl (Free.arg1 (Free.tr 3 hd)) ((rencode_any x wq HRX.out).mono fun e w2 h => (by obtain ⟨A2, k2, he, hr2, hk3, hk4, hb2⟩ := h; exact ⟨_, he, ⟨A2, k2, rfl, hr2, hk3, hk4⟩, hb2⟩))
       · refine Free.og 2 24 true fun vals wq hC hd => ?_; obtain ⟨A4, k4, e4, rd4, le4, mx4⟩ := hd 4 (by kernel_rfl); exact Free.d_conv rfl (Eq.trans (b := vals 4) (by kernel_rfl) e4) (run_str (P := Tryz.prog) (w := wq) 28 9 5 Tryz.underlying28 Tryz.underlying5 Tryz.underlying9 A4 (_) (k4) (wq.heap.size) (Utf.enc x) (rd4) (rfl)) (Below.refl _ _) rfl
       · refine Free.og 2 24 true fun vals wq hC hd => ?_; exact Free.d_move rfl (by kernel_rfl) rfl
       · refine Free.og 2 24 true fun vals wq hC hd => ?_; exact Free.d_move rfl (by kernel_rfl) rfl
       · refine Free.og 2 24 true fun vals wq hC hd => ?_; exact Free.d_move rfl (by kernel_rfl) rfl
       · refine Free.og 2 24 true fun vals wq hC hd => ?_; exact Free.d_move rfl (by kernel_rfl) rfl
       · refine Free.og 2 24 true fun vals wq hC hd => ?_; exact Free.d_bin rfl (Free.tr 8 hd) (Free.tr 9 hd) (by go_simp) (by go_simp) rfl
       · refine Free.og 2 24 true fun vals wq hC hd => ?_; exact Free.d_move rfl (by kernel_rfl) rfl
       · refine Free.og 2 24 true fun vals wq hC hd => ?_; exact Free.d_len rfl Tryz.underlying28 (Free.tr 11 hd) rfl
       · refine Free.og 2 24 true fun vals wq hC hd => ?_; exact Free.d_call Tryz.func82 (by kernel_rfl) (by kernel_rfl) rfl rfl (Free.arg2 (Free.tr 10 hd) (Free.tr 12 hd)) ((least_any _ _ wq hle2).mono fun e w2 h => ⟨_, h.1, rfl, (by have h2 := h.2; subst h2; exact Below.refl _ _)⟩)
       · refine Free.og 2 24 true fun vals wq hC hd => ?_; exact Free.d_slice rfl (Free.tr 6 hd) (congrArg some (Free.tr 7 hd)) (congrArg some (Free.tr 13 hd)) rfl (hsl wq) rfl
       · refine Free.og 2 24 true fun vals wq hC hd => ?_; exact Free.d_conv rfl (Free.tr 14 hd) (run_str (P := Tryz.prog) (w := wq) 28 9 5 Tryz.underlying28 Tryz.underlying5 Tryz.underlying9 (some ⟨b, off + i, none⟩) (k) (c - i) (w.heap.size) (R.take k) (HRk.out.below' hC hw1) (HRkl.out)) (Below.refl _ _) rfl
       · refine Free.og 2 24 true fun vals wq hC hd => ?_; exact Free.d_bin rfl (Free.tr 5 hd) (Free.tr 15 hd) (by go_simp) (run_eql_str _ _ _) rfl
       · exact Free.d_pick rfl (Eq.trans (b := vals 2) (by kernel_rfl) (hd 2 (by kernel_rfl))) (Eq.trans (b := vals 16) (by kernel_rfl) (hd 16 (by kernel_rfl))) rfl
      ·
       intro vals wq hC hd
       refine Free.go hd ?_
       rintro _ rfl _ rfl _ rfl _ rfl _ ⟨A4, k4, rfl, rd4, le4, mx4⟩ _ rfl _ rfl _ rfl _ rfl _ rfl _ rfl _ rfl _ rfl _ rfl _ rfl _ rfl _ rfl _ rfl
       simp only [Free.All, Free.fl, Act.put, Free.sa, Free.s0, Free.s1]
       refine wpList_nil ?_
       clear hd
       by_cases he : Utf.enc x = R.take k
       ·
        have hh := (HIT.out).2 he
        have HST := Lib.hid (by have := Utf.best_hit HBE.out hh; rw [HX.out] at this; exact this)
        have hdec : decide (Utf.enc x = R.take k) = true := decide_eq_true he
        simp only [hdec]
        clear hdec he hh hwr hsl hic
        go_wp2
        go_roundw
        case rel => exact ⟨k + 1, _, _, by go_num, rfl, rfl, by omega, by omega, HST.out, HB1.out.trans (hC.mono (Nat.le_trans hz hz1))⟩
        case measure => simp [intOf]; omega
       ·
        have HST := Lib.hid (Utf.best_miss HBE.out fun hh => he ((HIT.out).1 hh))
        have hdec : decide (Utf.enc x = R.take k) = false := decide_eq_false he
        simp only [hdec]
        clear hdec he hwr hsl hic
        go_wp2
        go_roundw
        case rel => exact ⟨k + 1, _, _, by go_num, rfl, rfl, by omega, by omega, HST.out, HB1.out.trans (hC.mono (Nat.le_trans hz hz1))⟩
        case measure => simp [intOf]; omega
     ·
      have HRX := Lib.hid (by simpa using hrx : Utf.right x = false)
      clear hrx
      refine Free.wp_free_l 18 (fun W => Below w1.heap.size w1 W) [Free.kc (.int .i64 x), Free.kc (.bool false), Free.kc (.bool false), Free.kc (undef), Free.kc (undef), Free.kc (undef), Free.kc (undef), Free.kc (undef), Free.kc (undef), Free.kc (undef), Free.kc (undef), Free.kc (undef), Free.kc (undef), Free.kc (undef), Free.kc (undef), Free.kc (undef), Free.kc (undef), Free.kc (.bool false)] (by kernel_rfl) (by kernel_rfl) (by decide) (Below.refl _ _).drew (fun w w' h g => bt h g) ?_ ?_
      ·
       iterate 18 refine Free.forall_succ ?_ ?_
       all_goals first | exact Free.forall_zero | (refine Free.op fun vals wq hC hd => ?_) | skip
       · exact Free.dm
       · exact Free.d_call Tryz.func80 (by kernel_rfl) (by kernel_rfl) rfl rfl (Free.arg1 (Free.tr 0 hd)) ((rright_any x wq).mono fun e w2 h => ⟨_, h.1, (by rw [HRX.out]; rfl), (by have h2 := h.2; subst h2; exact Below.refl _ _)⟩)
       · exact Free.d_move rfl (Free.tr 1 hd) rfl
       · exact Free.skl 2 24 true
       · exact Free.skl 2 24 true
       · exact Free.skl 2 24 true
       · exact Free.skl 2 24 true
       · exact Free.skl 2 24 true
       · exact Free.skl 2 24 true
       · exact Free.skl 2 24 true
       · exact Free.skl 2 24 true
       · exact Free.skl 2 24 true
       · exact Free.skl 2 24 true
       · exact Free.skl 2 24 true
       · exact Free.skl 2 24 true
       · exact Free.skl 2 24 true
       · exact Free.skl 2 24 true
       · exact Free.d_pick rfl (Eq.trans (b := vals 2) (by kernel_rfl) (hd 2 (by kernel_rfl))) rfl rfl
      ·
       intro vals wq hC hd
       refine Free.go hd ?_
       rintro _ rfl _ rfl _ rfl _ rfl _ rfl _ rfl _ rfl _ rfl _ rfl _ rfl _ rfl _ rfl _ rfl _ rfl _ rfl _ rfl _ rfl _ rfl
       simp only [Free.All, Free.fl, Act.put, Free.sa, Free.s0, Free.s1]
       refine wpList_nil ?_
       clear hd
       have HST := Lib.hid (Utf.best_miss HBE.out (Utf.hit_no HX.out HRX.out))
       go_wp2
       go_roundw
       case rel => exact ⟨k + 1, _, _, by go_num, rfl, rfl, by omega, by omega, HST.out, HB1.out.trans (hC.mono (Nat.le_trans hz hz1))⟩
       case measure => simp [intOf]; omega
    ·
     obtain rfl : k = 5 := by omega
     have hf := Utf.best_end HRN.out HBE.out
     have hbb := best_bd HBE.out (by omega) HRN.out
     have hRl := HRL.out
     have HF := Lib.hid hf
     have hm1 : m ≤ n - i := by omega
     have hm0 : 0 < m := by omega
     have hdn : done.length ≤ n := by omega
     clear hf hbb hRl
     have HO := Lib.hid (own_keep HH.out.own HBW.out (Nat.le_refl _))
     have hBB : w.heap.size ≤ wr.heap.size := by omega
     go_wp2_with (first
      | (at_builtin; refine wl_app rfl (.tmp 42) (.tmp 44) 43 rfl w.heap.size 3 1 8 intsT _ done.length (done.map iv) rfl (HO.out.alloc _) (wr.heap.size + 1) (some ⟨wr.heap.size, 0, none⟩) 1 1 [iv d] rfl (rd_new wr [iv d] 3 (0, 0)) rfl (by simp [iv, Value.oneCell']) (by rw [maxLen_eq]; omega) (by omega) (by simp; omega) ?_; intro A1 c1 w1 hown1 hg1 hat1 hb1 hc1 hc2; have HO1 := Lib.hid hown1; have HB1 := Lib.hid (((HH.out.bel.trans (HBW.out.mono hB)).alloc hBB _).trans hb1); clear hg1 hat1 hb1 hc1 hc2 hown1)
      | fail)
     go_roundw
     case rel =>
      refine ⟨i + m, done ++ [d], by go_num, ⟨by have := HN.out; omega, by simpa using HO1.out, ?_, by simp; omega, HB1.out⟩⟩
      rw [HH.out.val, HRE.out, Utf.dec_step R HRN.out, HF.out, ← HRE.out, List.drop_drop]
      simp
     case measure => simp [intOf]; omega
  ·
   obtain rfl : i = n := by omega
   have hv : Utf.dec l = done := by
    have := HH.out.val
    rw [List.drop_of_length_le (by rw [HN.out]; exact Nat.le_refl _), Utf.dec_nil, List.append_nil] at this
    exact this
   have HV := Lib.hid hv
   clear hv
   go_wp2
   go_ret
   exact ⟨_, rfl, by rw [HV.out]; exact HH.out.own, HH.out.bel⟩
end Go.Proofs.YteoledjllpgcbaaGreatDoor.Ut
