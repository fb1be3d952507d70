/- The walks of the reference's least and begins. -/
import Derived.Test.YtabndfboohgioaaDoorUtfRef
import Derived.Test.YtabndfboohgioaaDoorUtfPlain3
namespace Go.Proofs.YtabndfboohgioaaDoor
set_option linter.unusedVariables false
open Go.RowKit

theorem least_any (a b : Int) (w : World) (h : a ≤ b) : Calls Tryd.prog 24 #[.int .i64 a, .int .i64 b] w fun e w' => e = .returned (.int .i64 a) ∧ w = w' := by
  by_cases h2 : a < b
  · go_enter Tryd.func24, Tryd.ntmps24
    go_wp2
    go_ret
    exact ⟨rfl, rfl⟩
  · obtain rfl : a = b := by omega
    go_enter Tryd.func24, Tryd.ntmps24
    go_wp2
    go_ret
    exact ⟨rfl, rfl⟩

def BegPost (l : List UInt8) (k : Nat) (w : World) (e : Ending) (w' : World) : Prop := e = .returned (.int .i64 (Utf.beg l k)) ∧ Below w.heap.size w w' ∧ -134217728 ≤ Utf.beg l k ∧ Utf.beg l k ≤ 134217728
/-- The rounds' state. -/
def BRel (T : List UInt8) (c0 c : Int) (j : Nat) : Prop := j ≤ T.length ∧ Utf.begF T c0 = Utf.begF (T.drop j) c ∧ (j = 0 → -256 ≤ c ∧ c ≤ 256) ∧ (j = 1 → -20000 ≤ c ∧ c ≤ 20000) ∧ (j = 2 → -1300000 ≤ c ∧ c ≤ 1300000) ∧ (j = 3 → -84000000 ≤ c ∧ c ≤ 84000000)
theorem brel_step {T : List UInt8} {c0 c : Int} {j : Nat} (h : BRel T c0 c j) (hj : j < T.length) (h3 : T.length ≤ 3) : BRel T c0 (c * 64 + (T[j].toNat : Int) - 128) (j + 1) := by
  obtain ⟨h1, h2, b0, b1, b2, b3⟩ := h
  have := T[j].toNat_lt
  refine ⟨hj, by rw [h2, Utf.begF_step T j hj], fun h => by omega, fun h => by omega, fun h => by omega, fun h => by omega⟩
theorem brel_bd {T : List UInt8} {c0 c : Int} {j : Nat} (h : BRel T c0 c j) (h3 : T.length ≤ 3) : -84000000 ≤ c ∧ c ≤ 84000000 := by
  obtain ⟨h1, h2, b0, b1, b2, b3⟩ := h
  rcases Nat.lt_or_ge j 1 with g | g
  · have := b0 (by omega); omega
  rcases Nat.lt_or_ge j 2 with g2 | g2
  · have := b1 (by omega); omega
  rcases Nat.lt_or_ge j 3 with g3 | g3
  · have := b2 (by omega); omega
  · have := b3 (by omega); omega
theorem lead_cell (w : World) (k : Nat) (h1 : 1 ≤ k) (h4 : k ≤ 4) : (w.alloc (.cells #[.int .i64 0, .int .i64 0, .int .i64 192, .int .i64 224, .int .i64 240] 3)).cell? ⟨w.heap.size, k, none⟩ = some (.int .i64 (Utf.lead k)) := by
  rw [cell_of_row _ _ _ _ _ _ (heap_alloc_new w _)]
  have : k = 1 ∨ k = 2 ∨ k = 3 ∨ k = 4 := by omega
  rcases this with rfl | rfl | rfl | rfl <;> rfl
theorem lead_bd (k : Nat) : 0 ≤ Utf.lead k ∧ Utf.lead k ≤ 240 := by
  unfold Utf.lead
  split <;> (try split) <;> (try split) <;> omega
set_option maxRecDepth 100000 in
set_option maxHeartbeats 4000000 in
theorem begins_any (A : Option Addr) (n c : Nat) (l : List UInt8) (k : Nat) (w : World) (hr : Rd w w.heap.size A (l.map bv)) (hn : l.length = n) (hc : n ≤ c) (hm : c ≤ maxLen) (hp : l ≠ []) (k1 : 1 ≤ k) (k4 : k ≤ 4) :
    Calls Tryd.prog 23 #[.slice A n c, .int .i64 (k : Int)] w (BegPost l k w) := by
  rw [maxLen_eq] at hm
  by_cases hs : n < k
  · have hb := Utf.beg_short l k (by omega)
    have HB := Lib.hid hb
    have hs' : (n : Int) < (k : Int) := by omega
    clear hr hn hb hp
    go_enter Tryd.func23, Tryd.ntmps23
    go_wp2
    go_ret
    exact ⟨by rw [HB.out]; simp, Below.refl _ _, by rw [HB.out]; omega, by rw [HB.out]; omega⟩
  · match l, hp with
    | b0 :: t, _ =>
    obtain ⟨b, off, rfl, hlt, hcell⟩ := hr (by simp)
    have h0 : w.cell? ⟨b, off, none⟩ = some (.int .u8 b0.toNat) := by simpa [bv] using hcell 0 (bv b0) (by simp)
    have hcl : ∀ j (hj : j < t.length), w.cell? ⟨b, off + (j + 1), none⟩ = some (.int .u8 t[j].toNat) := fun j hj => by
      have := hcell (j + 1) (bv t[j]) (by simp [hj])
      exact this
    have hbeg : Utf.beg (b0 :: t) k = Utf.begF (t.take (k - 1)) ((b0.toNat : Int) - Utf.lead k) := by
      rw [Utf.beg_cons, if_neg (by simp at hn; omega)]
    obtain ⟨T, hT⟩ : ∃ T, t.take (k - 1) = T := ⟨_, rfl⟩
    rw [hT] at hbeg
    have hTl : T.length = k - 1 := by rw [← hT, List.length_take]; simp at hn; omega
    have hTc : ∀ j (hj : j < T.length), w.cell? ⟨b, off + (j + 1), none⟩ = some (.int .u8 T[j].toNat) := fun j hj => by
      have hj' : j < t.length := by rw [← hT, List.length_take] at hj; omega
      have e : T[j] = t[j] := by
        have : T[j]? = t[j]? := by rw [← hT, List.getElem?_take]; rw [if_pos (by omega)]
        rw [List.getElem?_eq_getElem hj, List.getElem?_eq_getElem hj'] at this
        injection this
      rw [e]; exact hcl j hj'
    obtain ⟨x, hx⟩ : ∃ x : Int, (b0.toNat : Int) = x := ⟨_, rfl⟩
    have hx0 : 0 ≤ x := by omega
    have hx1 : x < 256 := by have := b0.toNat_lt; omega
    rw [hx] at h0 hbeg
    have hld := lead_cell w k k1 k4
    have hlb := lead_bd k
    obtain ⟨q, hq⟩ : ∃ q, Utf.lead k = q := ⟨_, rfl⟩
    rw [hq] at hld hlb hbeg
    obtain ⟨q0, q1⟩ := hlb
    have hrel0 : BRel T (x - q) (x - q) 0 := ⟨Nat.zero_le _, rfl, fun _ => by omega, fun h => by omega, fun h => by omega, fun h => by omega⟩
    have hn0 : (0 : Int) < (n : Int) := by simp at hn; omega
    have h0a : (w.alloc (.cells #[.int .i64 0, .int .i64 0, .int .i64 192, .int .i64 224, .int .i64 240] 3)).cell? ⟨b, off, none⟩ = some (.int .u8 x) := by rw [World.cell?_alloc_lt _ _ _ (by exact hlt)]; exact h0
    have HREL := Lib.hid hrel0; have HBEG := Lib.hid hbeg; have HTC := Lib.hid hTc; have HTL := Lib.hid hTl
    have k1' : (1 : Int) ≤ (k : Int) := by omega
    have k4' : (k : Int) ≤ 4 := by omega
    have hs2 : (k : Int) ≤ (n : Int) := by omega
    clear hcell hcl hbeg hT hTl hTc hx hq hrel0 hn h0 hr hs
    go_enter Tryd.func23, Tryd.ntmps23
    go_wp2_with fail
    go_region
    clear h0a hld
    go_wp2_with fail
    go_loop [6, 7] (fun u i => ∃ (j : Nat) (d : Int), i = .int .i64 ((j : Int) + 1) ∧ u = .int .i64 d ∧ BRel T (x - q) d j) (fun _ i => (k - (intOf i).toNat))
    case atStart => exact ⟨0, _, rfl, rfl, HREL.out⟩
    case round =>
      obtain ⟨j, d, rfl, rfl, hrel⟩ := hrel
      have hbd := brel_bd hrel (by rw [HTL.out]; omega)
      obtain ⟨d0, d1⟩ := hbd
      have hjT : j + 1 ≤ k := by have := hrel.1; rw [HTL.out] at this; omega
      by_cases hj : j + 1 < k
      · have hj' : j < T.length := by rw [HTL.out]; omega
        have hy := HTC.out j hj'
        have hst := brel_step hrel hj' (by rw [HTL.out]; omega)
        obtain ⟨y, hyy⟩ : ∃ y : Int, (T[j].toNat : Int) = y := ⟨_, rfl⟩
        have y0 : 0 ≤ y := by omega
        have y1 : y < 256 := by have := T[j].toNat_lt; omega
        rw [hyy] at hy hst
        have HST := Lib.hid hst
        have hya : (w.alloc (.cells #[.int .i64 0, .int .i64 0, .int .i64 192, .int .i64 224, .int .i64 240] 3)).cell? ⟨b, off + (j + 1), none⟩ = some (.int .u8 y) := by rw [World.cell?_alloc_lt _ _ _ (by exact hlt)]; exact hy
        have hj2 : (j : Int) + 1 < (k : Int) := by omega
        clear hst hyy hy hrel
        go_wp2
        go_round
        case rel => exact ⟨j + 1, _, by go_num, rfl, HST.out⟩
        case measure => simp [intOf]; omega
      · obtain rfl : k = j + 1 := by omega
        have hT : T.length = j := by have := HTL.out; omega
        have hv : Utf.beg (b0 :: t) (j + 1) = d := by
          rw [HBEG.out, hrel.2.1, ← hT, List.drop_length]; rfl
        have HV := Lib.hid hv
        clear hv hT hrel
        go_wp2
        go_ret
        exact ⟨by rw [HV.out]; simp, ((Below.refl _ _).alloc (Nat.le_refl _) _).drew, by rw [HV.out]; omega, by rw [HV.out]; omega⟩
end Go.Proofs.YtabndfboohgioaaDoor
