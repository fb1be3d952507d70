/- The walks of utf.first and utf.Decode. -/
import Derived.Test.YtabndfboohgioaaDoorUtfWalks
namespace Go.Proofs.YtabndfboohgioaaDoor
set_option linter.unusedVariables false
open Go.RowKit

/-- What first gives. -/
def FirstPost (l : List UInt8) (w : World) (e : Ending) (w' : World) : Prop := e = .returned (.tuple #[.int .i64 (Utf.first l).1, .int .i64 ((Utf.first l).2 : Int)]) ∧ w = w'
theorem fp_bad {l : List UInt8} {w : World} (h : Utf.first l = (Utf.bad, 1)) : FirstPost l w (.returned (.tuple #[.int .i64 65533, .int .i64 1])) w := ⟨by rw [h]; rfl, rfl⟩
theorem fp_of {l : List UInt8} {w : World} {c n : Int} {m : Nat} (h : Utf.first l = (c, m)) (hm : (m : Int) = n) : FirstPost l w (.returned (.tuple #[.int .i64 c, .int .i64 n])) w := ⟨by rw [h, hm], rfl⟩

/-- The rounds over the further bytes: how far one is, and what has come together. -/
def Tail (T : List UInt8) (a c : Int) (k : Nat) : Prop := k ≤ T.length ∧ Utf.tails T a = Utf.tails (T.drop k) c ∧ 0 ≤ c ∧ (k = 0 → c < 32) ∧ (k = 1 → c < 2048) ∧ (k = 2 → c < 131072) ∧ c < 8388608
theorem tail_zero (T : List UInt8) (a : Int) (h0 : 0 ≤ a) (h1 : a < 32) : Tail T a a 0 := ⟨Nat.zero_le _, rfl, h0, fun _ => h1, fun h => by omega, fun h => by omega, by omega⟩
theorem tail_step {T : List UInt8} {a c : Int} {k : Nat} (h : Tail T a c k) (hk : k < T.length) (h3 : T.length ≤ 3) (hx : (T[k].toNat : Int) / 64 = 2) : Tail T a (c * 64 + (T[k].toNat : Int) % 64) (k + 1) := by
  obtain ⟨h1, h2, h0, b0, b1, b2, b3⟩ := h
  refine ⟨by omega, ?_, by omega, fun h => by omega, fun h => by omega, fun h => by omega, by omega⟩
  rw [h2, List.drop_eq_getElem_cons hk]
  show (if _ then _ else _) = _
  rw [if_pos hx]
theorem tail_bad {T : List UInt8} {a c : Int} {k : Nat} (h : Tail T a c k) (hk : k < T.length) (hx : ¬ (T[k].toNat : Int) / 64 = 2) : Utf.tails T a = none := by
  rw [h.2.1, List.drop_eq_getElem_cons hk]
  show (if _ then _ else _) = _
  rw [if_neg hx]
theorem tail_end {T : List UInt8} {a c : Int} (h : Tail T a c T.length) : Utf.tails T a = some c := by
  rw [h.2.1, List.drop_length]; rfl

/-- What stands between the first byte and the loop. -/
theorem try_of {n : Nat} {a : Int} {t T : List UInt8} (hT : t.take (n - 1) = T) (hl : n ≤ t.length + 1) : Utf.try_ n a t = Utf.whole n (Utf.tails T a) := by
  unfold Utf.try_
  rw [if_neg (by omega), hT]
theorem whole_yes {n : Nat} {c : Int} (h1 : Utf.right c = true) (h2 : Utf.size c = n) : Utf.whole n (some c) = (c, n) := by
  show (if _ then _ else _) = _
  rw [if_pos ⟨h1, h2⟩]
theorem whole_no {n : Nat} {c : Int} (h : ¬ (Utf.right c = true ∧ Utf.size c = n)) : Utf.whole n (some c) = (Utf.bad, 1) := by
  show (if _ then _ else _) = _
  rw [if_neg h]

set_option maxRecDepth 100000 in
set_option maxHeartbeats 4000000 in
theorem first_any (A : Option Addr) (n c : Nat) (l : List UInt8) (w : World) (hr : Rd w w.heap.size A (l.map bv)) (hn : l.length = n) (hc : n ≤ c) (hm : c ≤ maxLen) (hp : l ≠ []) :
    Calls Tryd.prog 22 #[.slice A n c] w (FirstPost l w) := by
  rw [maxLen_eq] at hm
  match l, hp with
  | b0 :: t, _ =>
  obtain ⟨b, off, rfl, hb, hcell⟩ := hr (by simp)
  have h0 : w.cell? ⟨b, off, none⟩ = some (.int .u8 b0.toNat) := by simpa [bv] using hcell 0 (bv b0) (by simp)
  have hfc := Utf.first_cons b0 t
  obtain ⟨x, hx⟩ : ∃ x : Int, (b0.toNat : Int) = x := ⟨_, rfl⟩
  have hx0 : 0 ≤ x := by omega
  have hx1 : x < 256 := by have := b0.toNat_lt; omega
  rw [hx] at h0 hfc
  have HN := Lib.hid hn
  have hn1 : t.length + 1 ≤ n := by simp at hn; omega
  have hn2 : n ≤ t.length + 1 := by simp at hn; omega
  have hl' : (0:Int) < (n:Int) := by omega
  clear hcell hn hx
  by_cases g1 : x < 128
  · rw [if_pos g1] at hfc
    have HF := Lib.hid hfc
    clear hfc
    go_enter Tryd.func22, Tryd.ntmps22
    go_wp2
    go_ret2
    exact fp_of HF.out rfl
  rw [if_neg g1] at hfc
  by_cases g2 : x / 32 = 6
  · rw [if_pos g2] at hfc
    have e1 : bits .and .i64 x 31 = x % 32 := Bit.mask 5 x 31 32 hx0 (by omega) (by omega) rfl rfl
    by_cases hlen : n < 2
    · have HF := Lib.hid (hfc.trans (by unfold Utf.try_; rw [if_pos (by omega)] : Utf.try_ 2 (x % 32) t = (Utf.bad, 1)))
      clear hfc
      go_enter Tryd.func22, Tryd.ntmps22
      go_wp2_with fail
      go_ret2
      exact fp_bad HF.out
    · obtain ⟨T, hT⟩ : ∃ T, t.take 1 = T := ⟨_, rfl⟩
      have hTl : T.length = 1 := by rw [← hT, List.length_take]; omega
      have hTm : (((b0 :: t).map bv).take 2).drop 1 = T.map bv := by rw [← hT, ← List.map_take]; rfl
      have htr := hfc.trans (try_of (n := 2) hT (by omega))
      have h0' := tail_zero T (x % 32) (by omega) (by omega)
      have HF := Lib.hid htr; have HTL := Lib.hid hTl; have HTM := Lib.hid hTm
      clear hfc hT hTl hTm htr
      go_enter Tryd.func22, Tryd.ntmps22
      go_wp2_with (first | (refine wl_cut_lh rfl 22 (.tmp 38) (.const (.int .i64 1)) (.tmp 39) rfl 5 Tryd.underlying22 size_u8 (some ⟨b, off, none⟩) n c rfl .i64 .i64 1 2 rfl rfl (by omega) (by omega) (by omega) hc w.heap.size _ hr (by simpa using HN.out) ?_; intro A' hr'; have hr2 : Rd w w.heap.size A' (T.map bv) := Eq.mp (congrArg (Rd w w.heap.size A') HTM.out) hr'; clear hr') | fail)
      clear e1
      go_loop [4, 7, 42] (fun u _ i => ∃ (k : Nat) (d : Int), i = .int .i64 k ∧ u = .int .i64 d ∧ Tail T (x % 32) d k) (fun _ _ i => (2 - intOf i).toNat)
      case atStart => exact ⟨0, _, rfl, rfl, h0'⟩
      case round =>
        obtain ⟨k, d, rfl, rfl, ht⟩ := hrel
        obtain ⟨hd0, hd1⟩ : 0 ≤ d ∧ d < 8388608 := ⟨ht.2.2.1, ht.2.2.2.2.2.2⟩
        have hkT : k ≤ 1 := by have := ht.1; rw [HTL.out] at this; exact this
        by_cases hk : k < 1
        · have hk' : k < T.length := by rw [HTL.out]; exact hk
          obtain ⟨b2, o2, rfl, _, hcell⟩ := hr2 (by intro e; rw [List.map_eq_nil_iff] at e; subst e; simp at hk')
          have hy : w.cell? ⟨b2, o2 + k, none⟩ = some (.int .u8 T[k].toNat) := hcell k (bv T[k]) (by simp [hk'])
          obtain ⟨y, hyy⟩ : ∃ y : Int, (T[k].toNat : Int) = y := ⟨_, rfl⟩
          have hy0 : 0 ≤ y := by omega
          have hy1 : y < 256 := by have := T[k].toNat_lt; omega
          rw [hyy] at hy
          have hstep := fun h => tail_step ht hk' (by rw [HTL.out]; omega) h
          have hbadd := fun h => tail_bad ht hk' h
          rw [hyy] at hstep hbadd
          clear hcell hyy
          by_cases g : y / 64 = 2
          · have HST := Lib.hid (hstep g)
            clear hstep hbadd ht
            have f1 : bits .and .u8 y 63 = y % 64 := Bit.mask8 6 y 63 64 hy0 hy1 (by omega) rfl rfl
            have f2 : bits .or .i64 (d * 64) (y % 64) = d * 64 + y % 64 := Bit.join 6 _ _ 64 rfl (by omega) (by omega) (by omega) (by omega) (by omega) (by omega)
            go_wp2
            go_round
            case rel => exact ⟨k + 1, _, by go_num, rfl, HST.out⟩
            case measure => simp [intOf]; omega
          · have HST := Lib.hid (HF.out.trans (by rw [hbadd g]; rfl : Utf.whole 2 (Utf.tails T (x % 32)) = (Utf.bad, 1)))
            clear hstep hbadd ht
            go_wp2
            go_ret2
            exact fp_bad HST.out
        · obtain rfl : k = 1 := by omega
          have hend := tail_end (by rw [HTL.out]; exact ht)
          have hF2 := HF.out.trans (congrArg (Utf.whole 2) hend)
          clear ht hend
          by_cases hR : Utf.right d = true
          · by_cases hS : Utf.size d = 2
            · have HX := Lib.hid (hF2.trans (whole_yes hR hS))
              have HR := Lib.hid hR; have HS := Lib.hid hS
              clear hF2 hR hS
              go_wp2_with (first | (go_at_call 18; refine (right_any _ _).mono ?_; rintro e w' ⟨rfl, rfl⟩; rw [HR.out]) | (go_at_call 26; refine (size_any _ _).mono ?_; rintro e w' ⟨rfl, rfl⟩; rw [HS.out]))
              go_ret2
              exact fp_of HX.out rfl
            · have HX := Lib.hid (hF2.trans (whole_no (fun h => hS h.2)))
              have hS' : (Utf.size d == 2) = false := by simpa using hS
              have HR := Lib.hid hR
              clear hF2 hR hS
              go_wp2_with (first | (go_at_call 18; refine (right_any _ _).mono ?_; rintro e w' ⟨rfl, rfl⟩; rw [HR.out]) | (go_at_call 26; refine (size_any _ _).mono ?_; rintro e w' ⟨rfl, rfl⟩))
              go_ret2
              exact fp_bad HX.out
          · have HX := Lib.hid (hF2.trans (whole_no (fun h => hR h.1)))
            have HR := Lib.hid (by simpa using hR : Utf.right d = false)
            clear hF2 hR
            go_wp2_with (first | (go_at_call 18; refine (right_any _ _).mono ?_; rintro e w' ⟨rfl, rfl⟩; rw [HR.out]) | (go_at_call 26; refine (size_any _ _).mono ?_; rintro e w' ⟨rfl, rfl⟩))
            go_ret2
            exact fp_bad HX.out
  rw [if_neg g2] at hfc
  by_cases g3 : x / 16 = 14
  · rw [if_pos g3] at hfc
    have e1 : bits .and .i64 x 15 = x % 16 := Bit.mask 4 x 15 16 hx0 (by omega) (by omega) rfl rfl
    by_cases hlen : n < 3
    · have HF := Lib.hid (hfc.trans (by unfold Utf.try_; rw [if_pos (by omega)] : Utf.try_ 3 (x % 16) t = (Utf.bad, 1)))
      clear hfc
      go_enter Tryd.func22, Tryd.ntmps22
      go_wp2_with fail
      go_ret2
      exact fp_bad HF.out
    · obtain ⟨T, hT⟩ : ∃ T, t.take 2 = T := ⟨_, rfl⟩
      have hTl : T.length = 2 := by rw [← hT, List.length_take]; omega
      have hTm : (((b0 :: t).map bv).take 3).drop 1 = T.map bv := by rw [← hT, ← List.map_take]; rfl
      have htr := hfc.trans (try_of (n := 3) hT (by omega))
      have h0' := tail_zero T (x % 16) (by omega) (by omega)
      have HF := Lib.hid htr; have HTL := Lib.hid hTl; have HTM := Lib.hid hTm
      clear hfc hT hTl hTm htr
      go_enter Tryd.func22, Tryd.ntmps22
      go_wp2_with (first | (refine wl_cut_lh rfl 22 (.tmp 38) (.const (.int .i64 1)) (.tmp 39) rfl 5 Tryd.underlying22 size_u8 (some ⟨b, off, none⟩) n c rfl .i64 .i64 1 3 rfl rfl (by omega) (by omega) (by omega) hc w.heap.size _ hr (by simpa using HN.out) ?_; intro A' hr'; have hr2 : Rd w w.heap.size A' (T.map bv) := Eq.mp (congrArg (Rd w w.heap.size A') HTM.out) hr'; clear hr') | fail)
      clear e1
      go_loop [4, 7, 42] (fun u _ i => ∃ (k : Nat) (d : Int), i = .int .i64 k ∧ u = .int .i64 d ∧ Tail T (x % 16) d k) (fun _ _ i => (3 - intOf i).toNat)
      case atStart => exact ⟨0, _, rfl, rfl, h0'⟩
      case round =>
        obtain ⟨k, d, rfl, rfl, ht⟩ := hrel
        obtain ⟨hd0, hd1⟩ : 0 ≤ d ∧ d < 8388608 := ⟨ht.2.2.1, ht.2.2.2.2.2.2⟩
        have hkT : k ≤ 2 := by have := ht.1; rw [HTL.out] at this; exact this
        by_cases hk : k < 2
        · have hk' : k < T.length := by rw [HTL.out]; exact hk
          obtain ⟨b2, o2, rfl, _, hcell⟩ := hr2 (by intro e; rw [List.map_eq_nil_iff] at e; subst e; simp at hk')
          have hy : w.cell? ⟨b2, o2 + k, none⟩ = some (.int .u8 T[k].toNat) := hcell k (bv T[k]) (by simp [hk'])
          obtain ⟨y, hyy⟩ : ∃ y : Int, (T[k].toNat : Int) = y := ⟨_, rfl⟩
          have hy0 : 0 ≤ y := by omega
          have hy1 : y < 256 := by have := T[k].toNat_lt; omega
          rw [hyy] at hy
          have hstep := fun h => tail_step ht hk' (by rw [HTL.out]; omega) h
          have hbadd := fun h => tail_bad ht hk' h
          rw [hyy] at hstep hbadd
          clear hcell hyy
          by_cases g : y / 64 = 2
          · have HST := Lib.hid (hstep g)
            clear hstep hbadd ht
            have f1 : bits .and .u8 y 63 = y % 64 := Bit.mask8 6 y 63 64 hy0 hy1 (by omega) rfl rfl
            have f2 : bits .or .i64 (d * 64) (y % 64) = d * 64 + y % 64 := Bit.join 6 _ _ 64 rfl (by omega) (by omega) (by omega) (by omega) (by omega) (by omega)
            go_wp2
            go_round
            case rel => exact ⟨k + 1, _, by go_num, rfl, HST.out⟩
            case measure => simp [intOf]; omega
          · have HST := Lib.hid (HF.out.trans (by rw [hbadd g]; rfl : Utf.whole 3 (Utf.tails T (x % 16)) = (Utf.bad, 1)))
            clear hstep hbadd ht
            go_wp2
            go_ret2
            exact fp_bad HST.out
        · obtain rfl : k = 2 := by omega
          have hend := tail_end (by rw [HTL.out]; exact ht)
          have hF2 := HF.out.trans (congrArg (Utf.whole 3) hend)
          clear ht hend
          by_cases hR : Utf.right d = true
          · by_cases hS : Utf.size d = 3
            · have HX := Lib.hid (hF2.trans (whole_yes hR hS))
              have HR := Lib.hid hR; have HS := Lib.hid hS
              clear hF2 hR hS
              go_wp2_with (first | (go_at_call 18; refine (right_any _ _).mono ?_; rintro e w' ⟨rfl, rfl⟩; rw [HR.out]) | (go_at_call 26; refine (size_any _ _).mono ?_; rintro e w' ⟨rfl, rfl⟩; rw [HS.out]))
              go_ret2
              exact fp_of HX.out rfl
            · have HX := Lib.hid (hF2.trans (whole_no (fun h => hS h.2)))
              have hS' : (Utf.size d == 3) = false := by simpa using hS
              have HR := Lib.hid hR
              clear hF2 hR hS
              go_wp2_with (first | (go_at_call 18; refine (right_any _ _).mono ?_; rintro e w' ⟨rfl, rfl⟩; rw [HR.out]) | (go_at_call 26; refine (size_any _ _).mono ?_; rintro e w' ⟨rfl, rfl⟩))
              go_ret2
              exact fp_bad HX.out
          · have HX := Lib.hid (hF2.trans (whole_no (fun h => hR h.1)))
            have HR := Lib.hid (by simpa using hR : Utf.right d = false)
            clear hF2 hR
            go_wp2_with (first | (go_at_call 18; refine (right_any _ _).mono ?_; rintro e w' ⟨rfl, rfl⟩; rw [HR.out]) | (go_at_call 26; refine (size_any _ _).mono ?_; rintro e w' ⟨rfl, rfl⟩))
            go_ret2
            exact fp_bad HX.out
  rw [if_neg g3] at hfc
  by_cases g4 : x / 8 = 30
  · rw [if_pos g4] at hfc
    have e1 : bits .and .i64 x 7 = x % 8 := Bit.mask 3 x 7 8 hx0 (by omega) (by omega) rfl rfl
    by_cases hlen : n < 4
    · have HF := Lib.hid (hfc.trans (by unfold Utf.try_; rw [if_pos (by omega)] : Utf.try_ 4 (x % 8) t = (Utf.bad, 1)))
      clear hfc
      go_enter Tryd.func22, Tryd.ntmps22
      go_wp2_with fail
      go_ret2
      exact fp_bad HF.out
    · obtain ⟨T, hT⟩ : ∃ T, t.take 3 = T := ⟨_, rfl⟩
      have hTl : T.length = 3 := by rw [← hT, List.length_take]; omega
      have hTm : (((b0 :: t).map bv).take 4).drop 1 = T.map bv := by rw [← hT, ← List.map_take]; rfl
      have htr := hfc.trans (try_of (n := 4) hT (by omega))
      have h0' := tail_zero T (x % 8) (by omega) (by omega)
      have HF := Lib.hid htr; have HTL := Lib.hid hTl; have HTM := Lib.hid hTm
      clear hfc hT hTl hTm htr
      go_enter Tryd.func22, Tryd.ntmps22
      go_wp2_with (first | (refine wl_cut_lh rfl 22 (.tmp 38) (.const (.int .i64 1)) (.tmp 39) rfl 5 Tryd.underlying22 size_u8 (some ⟨b, off, none⟩) n c rfl .i64 .i64 1 4 rfl rfl (by omega) (by omega) (by omega) hc w.heap.size _ hr (by simpa using HN.out) ?_; intro A' hr'; have hr2 : Rd w w.heap.size A' (T.map bv) := Eq.mp (congrArg (Rd w w.heap.size A') HTM.out) hr'; clear hr') | fail)
      clear e1
      go_loop [4, 7, 42] (fun u _ i => ∃ (k : Nat) (d : Int), i = .int .i64 k ∧ u = .int .i64 d ∧ Tail T (x % 8) d k) (fun _ _ i => (4 - intOf i).toNat)
      case atStart => exact ⟨0, _, rfl, rfl, h0'⟩
      case round =>
        obtain ⟨k, d, rfl, rfl, ht⟩ := hrel
        obtain ⟨hd0, hd1⟩ : 0 ≤ d ∧ d < 8388608 := ⟨ht.2.2.1, ht.2.2.2.2.2.2⟩
        have hkT : k ≤ 3 := by have := ht.1; rw [HTL.out] at this; exact this
        by_cases hk : k < 3
        · have hk' : k < T.length := by rw [HTL.out]; exact hk
          obtain ⟨b2, o2, rfl, _, hcell⟩ := hr2 (by intro e; rw [List.map_eq_nil_iff] at e; subst e; simp at hk')
          have hy : w.cell? ⟨b2, o2 + k, none⟩ = some (.int .u8 T[k].toNat) := hcell k (bv T[k]) (by simp [hk'])
          obtain ⟨y, hyy⟩ : ∃ y : Int, (T[k].toNat : Int) = y := ⟨_, rfl⟩
          have hy0 : 0 ≤ y := by omega
          have hy1 : y < 256 := by have := T[k].toNat_lt; omega
          rw [hyy] at hy
          have hstep := fun h => tail_step ht hk' (by rw [HTL.out]; omega) h
          have hbadd := fun h => tail_bad ht hk' h
          rw [hyy] at hstep hbadd
          clear hcell hyy
          by_cases g : y / 64 = 2
          · have HST := Lib.hid (hstep g)
            clear hstep hbadd ht
            have f1 : bits .and .u8 y 63 = y % 64 := Bit.mask8 6 y 63 64 hy0 hy1 (by omega) rfl rfl
            have f2 : bits .or .i64 (d * 64) (y % 64) = d * 64 + y % 64 := Bit.join 6 _ _ 64 rfl (by omega) (by omega) (by omega) (by omega) (by omega) (by omega)
            go_wp2
            go_round
            case rel => exact ⟨k + 1, _, by go_num, rfl, HST.out⟩
            case measure => simp [intOf]; omega
          · have HST := Lib.hid (HF.out.trans (by rw [hbadd g]; rfl : Utf.whole 4 (Utf.tails T (x % 8)) = (Utf.bad, 1)))
            clear hstep hbadd ht
            go_wp2
            go_ret2
            exact fp_bad HST.out
        · obtain rfl : k = 3 := by omega
          have hend := tail_end (by rw [HTL.out]; exact ht)
          have hF2 := HF.out.trans (congrArg (Utf.whole 4) hend)
          clear ht hend
          by_cases hR : Utf.right d = true
          · by_cases hS : Utf.size d = 4
            · have HX := Lib.hid (hF2.trans (whole_yes hR hS))
              have HR := Lib.hid hR; have HS := Lib.hid hS
              clear hF2 hR hS
              go_wp2_with (first | (go_at_call 18; refine (right_any _ _).mono ?_; rintro e w' ⟨rfl, rfl⟩; rw [HR.out]) | (go_at_call 26; refine (size_any _ _).mono ?_; rintro e w' ⟨rfl, rfl⟩; rw [HS.out]))
              go_ret2
              exact fp_of HX.out rfl
            · have HX := Lib.hid (hF2.trans (whole_no (fun h => hS h.2)))
              have hS' : (Utf.size d == 4) = false := by simpa using hS
              have HR := Lib.hid hR
              clear hF2 hR hS
              go_wp2_with (first | (go_at_call 18; refine (right_any _ _).mono ?_; rintro e w' ⟨rfl, rfl⟩; rw [HR.out]) | (go_at_call 26; refine (size_any _ _).mono ?_; rintro e w' ⟨rfl, rfl⟩))
              go_ret2
              exact fp_bad HX.out
          · have HX := Lib.hid (hF2.trans (whole_no (fun h => hR h.1)))
            have HR := Lib.hid (by simpa using hR : Utf.right d = false)
            clear hF2 hR
            go_wp2_with (first | (go_at_call 18; refine (right_any _ _).mono ?_; rintro e w' ⟨rfl, rfl⟩; rw [HR.out]) | (go_at_call 26; refine (size_any _ _).mono ?_; rintro e w' ⟨rfl, rfl⟩))
            go_ret2
            exact fp_bad HX.out
  rw [if_neg g4] at hfc
  have HF := Lib.hid hfc
  clear hfc
  have k2 : (x / 32 == 6) = false := by simpa using g2
  have k3 : (x / 16 == 14) = false := by simpa using g3
  have k4 : (x / 8 == 30) = false := by simpa using g4
  clear g2 g3 g4
  go_enter Tryd.func22, Tryd.ntmps22
  go_wp2
  go_ret2
  exact fp_bad HF.out
end Go.Proofs.YtabndfboohgioaaDoor
