/- constants and schedule, of the reference that sums. No statement of the seat is proved here. -/
import Derived.Test.YtoiilhbjlfdfpaaDoorShaRef1
import Derived.Test.YtoiilhbjlfdfpaaDoorFree
namespace Go.Proofs.YtoiilhbjlfdfpaaDoor
set_option linter.unusedVariables false
open Go.RowKit

/-- A word, as a cell. -/
def uv (x : UInt32) : Value := .int .u32 (nv x)
theorem wordsT : ElemT Tryd.prog 79 67 1 4 := ElemT.mk' Tryd.underlying79 info_u32 rfl (by omega)

def ConstPost (w : World) (e : Ending) (w' : World) : Prop :=
  ∃ g o, e = .returned (.slice (some ⟨g, o, none⟩) 64 64) ∧ g < w'.heap.size ∧ (∀ j, j < 64 → w'.cell? ⟨g, o + j, none⟩ = some (.int .u32 (nv (cst j)))) ∧ Below w.heap.size w w'
theorem const_mk {w : World} (cs : Array Value) (t : TypeId) (h : cs = (Sha.consts.map uv).toArray) : ConstPost w (.returned (.slice (some ⟨w.heap.size, 0, none⟩) 64 64)) (w.alloc (.cells cs t)) := by
  subst h
  refine ⟨w.heap.size, 0, rfl, by unfold World.alloc; simp, fun j hj => ?_, (Below.refl _ w).alloc (Nat.le_refl _) _⟩
  have h64 : Sha.consts.length = 64 := rfl
  have h1 : Sha.consts[j]? = some (cst j) := by
    unfold cst
    rw [List.getElem?_eq_getElem (by omega)]
    simp [List.getD, List.getElem?_eq_getElem (show j < Sha.consts.length by omega)]
  rw [Nat.zero_add]
  exact (row_new w _ _).cellQ j _ (by rw [List.getElem?_toArray, List.getElem?_map, h1]; rfl)
set_option maxRecDepth 100000 in
set_option maxHeartbeats 4000000 in
theorem constants_any (w : World) : Calls Tryd.prog 72 #[] w (ConstPost w) := by
  go_enter Tryd.func72, Tryd.ntmps72
  go_wp2
  go_ret
  exact const_mk _ _ (by kernel_rfl)

theorem word_sum (b0 b1 b2 b3 : UInt8) :
    ((((b0.toNat : Int) * (16777216 : Int) + (b1.toNat : Int) * (65536 : Int)) + (b2.toNat : Int) * (256 : Int)) + (b3.toNat : Int)) = nv ((b0.toUInt32 <<< 24) ||| (b1.toUInt32 <<< 16) ||| (b2.toUInt32 <<< 8) ||| b3.toUInt32) := by
  have h0 := b0.toNat_lt
  have h1 := b1.toNat_lt
  have h2 := b2.toNat_lt
  have h3 := b3.toNat_lt
  have a1 : b0.toNat * 16777216 ||| b1.toNat * 65536 = b0.toNat * 16777216 + b1.toNat * 65536 := by
    rw [show b0.toNat * 16777216 = 2 ^ 24 * b0.toNat by omega]
    exact (Nat.two_pow_add_eq_or_of_lt (by omega) _).symm
  have a2 : (b0.toNat * 16777216 + b1.toNat * 65536) ||| b2.toNat * 256 = b0.toNat * 16777216 + b1.toNat * 65536 + b2.toNat * 256 := by
    rw [show b0.toNat * 16777216 + b1.toNat * 65536 = 2 ^ 16 * (b0.toNat * 256 + b1.toNat) by omega]
    exact (Nat.two_pow_add_eq_or_of_lt (by omega) _).symm
  have a3 : (b0.toNat * 16777216 + b1.toNat * 65536 + b2.toNat * 256) ||| b3.toNat = b0.toNat * 16777216 + b1.toNat * 65536 + b2.toNat * 256 + b3.toNat := by
    rw [show b0.toNat * 16777216 + b1.toNat * 65536 + b2.toNat * 256 = 2 ^ 8 * (b0.toNat * 65536 + b1.toNat * 256 + b2.toNat) by omega]
    exact (Nat.two_pow_add_eq_or_of_lt (by omega) _).symm
  have s0 : (b0.toUInt32 <<< 24).toNat = b0.toNat * 16777216 := by
    rw [UInt32.toNat_shiftLeft, UInt8.toNat_toUInt32, Nat.shiftLeft_eq]
    show b0.toNat * 2 ^ 24 % 2 ^ 32 = _
    omega
  have s1 : (b1.toUInt32 <<< 16).toNat = b1.toNat * 65536 := by
    rw [UInt32.toNat_shiftLeft, UInt8.toNat_toUInt32, Nat.shiftLeft_eq]
    show b1.toNat * 2 ^ 16 % 2 ^ 32 = _
    omega
  have s2 : (b2.toUInt32 <<< 8).toNat = b2.toNat * 256 := by
    rw [UInt32.toNat_shiftLeft, UInt8.toNat_toUInt32, Nat.shiftLeft_eq]
    show b2.toNat * 2 ^ 8 % 2 ^ 32 = _
    omega
  unfold nv
  rw [UInt32.toNat_or, UInt32.toNat_or, UInt32.toNat_or, s0, s1, s2, UInt8.toNat_toUInt32, a1, a2, a3]
  omega

/-- The schedule's first k words. -/
def swl (l : List UInt8) (k : Nat) : List Value := (List.range k).map fun j => uv (sw l j)
def SchedPost (l : List UInt8) (w : World) (e : Ending) (w' : World) : Prop :=
  ∃ A c, e = .returned (.slice A 64 c) ∧ Rd w' w'.heap.size A (swl l 64) ∧ Below w.heap.size w w'
theorem swl_succ (l : List UInt8) (k : Nat) : swl l (k + 1) = swl l k ++ [uv (sw l k)] := by
  unfold swl; rw [List.range_succ, List.map_append]; rfl
theorem grow_drewN {w w' : World} (h : ∃ m, w' = w.drewN m) : Below w.heap.size w w' := by
  obtain ⟨m, rfl⟩ := h
  have h := Below.refl w.heap.size w
  exact ⟨h.os, h.tape, h.output, h.size, h.block⟩
theorem swl_get (l : List UInt8) (k j : Nat) (h : j < k) : (swl l k)[j]? = some (.int .u32 (nv (sw l j))) := by
  unfold swl; simp [h]; rfl

attribute [local go_sem] nv_xor nv_add

set_option maxRecDepth 100000 in
set_option maxHeartbeats 4000000 in
theorem schedule_any (A : Option Addr) (c : Nat) (l : List UInt8) (hl : l.length = 64) (w : World) (hr : Rd w w.heap.size A (l.map bv)) (hc : 64 ≤ c) (hm : c ≤ maxLen) :
    Calls Tryd.prog 71 #[.slice A 64 c] w (SchedPost l w) := by
  rw [maxLen_eq] at hm
  have hl0 : l.map bv ≠ [] := fun h => by
    have := congrArg List.length h
    simp [hl] at this
  obtain ⟨b, off, rfl, hb, hcell⟩ := hr hl0
  have HC := Lib.hid hcell
  clear hcell hr hl0
  go_enter Tryd.func71, Tryd.ntmps71
  go_wp2
  go_loopw [3, 4] (fun v i wr => ∃ (k j : Nat) (A' : Option Addr) (c' : Nat), k = 4 * j ∧ j ≤ 16 ∧ i = .int .i64 k ∧ v = .slice A' j c' ∧ j ≤ c' ∧ c' ≤ 9223372036854775807 ∧ wr.ownsRow w.heap.size 67 1 (.slice A' j c') j (swl l j) ∧ Below w.heap.size w wr) (fun _ i _ => 64 - (intOf i).toNat)
  case atStart => exact ⟨0, 0, none, 0, rfl, by omega, rfl, rfl, Nat.le_refl _, by omega, own_nil _ _ _ _, Below.refl _ _⟩
  case round =>
    obtain ⟨k, j, A', c', hk, hj, rfl, rfl, hcap1, hcap2, hown, hbel⟩ := hrel
    have HO := Lib.hid hown
    have HB := Lib.hid hbel
    have HK := Lib.hid hk
    by_cases h64 : k < 64
    · obtain ⟨b0, h0⟩ : ∃ x, l[k]? = some x := ⟨_, List.getElem?_eq_getElem (by omega)⟩
      obtain ⟨b1, h1⟩ : ∃ x, l[k + 1]? = some x := ⟨_, List.getElem?_eq_getElem (by omega)⟩
      obtain ⟨b2, h2⟩ : ∃ x, l[k + 2]? = some x := ⟨_, List.getElem?_eq_getElem (by omega)⟩
      obtain ⟨b3, h3⟩ : ∃ x, l[k + 3]? = some x := ⟨_, List.getElem?_eq_getElem (by omega)⟩
      have rdc : ∀ j x, l[j]? = some x → wr.cell? ⟨b, off + j, none⟩ = some (.int .u8 (x.toNat : Int)) := fun j x hx => by
        rw [hbel.cell (p := ⟨b, off + j, none⟩) (by show b < _; omega)]
        exact HC.out j _ (by rw [List.getElem?_map, hx]; rfl)
      have c0 := rdc _ _ h0
      have c1 := rdc _ _ h1
      have c2 := rdc _ _ h2
      have c3 := rdc _ _ h3
      have t0 := b0.toNat_lt
      have t1 := b1.toNat_lt
      have t2 := b2.toNat_lt
      have t3 := b3.toNat_lt
      have hw := word_bits l b0 b1 b2 b3 j (by omega) (by rw [← hk]; exact h0) (by rw [← hk]; exact h1) (by rw [← hk]; exact h2) (by rw [← hk]; exact h3)
      have i1 : (k : Int) + 1 < 64 := by omega
      have i2 : (k : Int) + 2 < 64 := by omega
      have i3 : (k : Int) + 3 < 64 := by omega
      have p1 : (0 : Int) ≤ (k : Int) + 1 := by omega
      have p2 : (0 : Int) ≤ (k : Int) + 2 := by omega
      have p3 : (0 : Int) ≤ (k : Int) + 3 := by omega
      have n1 : ((k : Int) + 1).toNat = k + 1 := by omega
      have n2 : ((k : Int) + 2).toNat = k + 2 := by omega
      have n3 : ((k : Int) + 3).toNat = k + 3 := by omega
      have hs := word_sum b0 b1 b2 b3
      rw [hw] at hs
      have HS := Lib.hid hs
      have hlow : ∀ (p : Addr) (W : World), p.block < w.heap.size → Below wr.heap.size wr W → W.cell? p = wr.cell? p := fun p W hp hW => hW.cell (Nat.lt_of_lt_of_le hp HB.out.size)
      have hc0 := fun (W : World) (hW : Below wr.heap.size wr W) => (hlow ⟨b, off + k, none⟩ W hb hW).trans c0
      have hc1 := fun (W : World) (hW : Below wr.heap.size wr W) => (hlow ⟨b, off + (k + 1), none⟩ W hb hW).trans c1
      have hc2 := fun (W : World) (hW : Below wr.heap.size wr W) => (hlow ⟨b, off + (k + 2), none⟩ W hb hW).trans c2
      have hc3 := fun (W : World) (hW : Below wr.heap.size wr W) => (hlow ⟨b, off + (k + 3), none⟩ W hb hW).trans c3
      clear hw hs h0 h1 h2 h3 rdc hown hbel hk c0 c1 c2 c3 hlow
      go_wp2_with fail
      refine Free.wp_free_l 31 (fun W => Below wr.heap.size wr W) [Free.kc (.slice A' j c'), Free.kc (.slice (some ⟨b, off, none⟩) 64 c), Free.kc (.int .i64 (k : Int)), Free.kc (.pointer (some ⟨b, off + k, none⟩)), Free.kc (.int .u8 (b0.toNat : Int)), Free.kc (.int .u32 (b0.toNat : Int)), Free.kc (.int .u32 ((b0.toNat : Int) * 16777216)), Free.kc (.slice (some ⟨b, off, none⟩) 64 c), Free.kc (.int .i64 (k : Int)), Free.kc (.int .i64 ((k : Int) + 1)), Free.kc (.pointer (some ⟨b, off + (k + 1), none⟩)), Free.kc (.int .u8 (b1.toNat : Int)), Free.kc (.int .u32 (b1.toNat : Int)), Free.kc (.int .u32 ((b1.toNat : Int) * 65536)), Free.kc (.int .u32 ((b0.toNat : Int) * 16777216 + (b1.toNat : Int) * 65536)), Free.kc (.slice (some ⟨b, off, none⟩) 64 c), Free.kc (.int .i64 (k : Int)), Free.kc (.int .i64 ((k : Int) + 2)), Free.kc (.pointer (some ⟨b, off + (k + 2), none⟩)), Free.kc (.int .u8 (b2.toNat : Int)), Free.kc (.int .u32 (b2.toNat : Int)), Free.kc (.int .u32 ((b2.toNat : Int) * 256)), Free.kc (.int .u32 ((b0.toNat : Int) * 16777216 + (b1.toNat : Int) * 65536 + (b2.toNat : Int) * 256)), Free.kc (.slice (some ⟨b, off, none⟩) 64 c), Free.kc (.int .i64 (k : Int)), Free.kc (.int .i64 ((k : Int) + 3)), Free.kc (.pointer (some ⟨b, off + (k + 3), none⟩)), Free.kc (.int .u8 (b3.toNat : Int)), Free.kc (.int .u32 (b3.toNat : Int)), Free.kc (.int .u32 ((b0.toNat : Int) * 16777216 + (b1.toNat : Int) * 65536 + (b2.toNat : Int) * 256 + (b3.toNat : Int))), Free.kr (1) ([.int .u32 ((b0.toNat : Int) * 16777216 + (b1.toNat : Int) * 65536 + (b2.toNat : Int) * 256 + (b3.toNat : Int))])] (by kernel_rfl) (by kernel_rfl) (by decide) (Below.refl _ _).drew (fun w w' h g => bt h g) ?_ ?_
      · refine Free.forall_succ (Free.forall_succ (Free.forall_succ (Free.forall_succ (Free.forall_succ (Free.forall_succ (Free.forall_succ (Free.forall_succ (Free.forall_succ (Free.forall_succ (Free.forall_succ (Free.forall_succ (Free.forall_succ (Free.forall_succ (Free.forall_succ (Free.forall_succ (Free.forall_succ (Free.forall_succ (Free.forall_succ (Free.forall_succ (Free.forall_succ (Free.forall_succ (Free.forall_succ (Free.forall_succ (Free.forall_succ (Free.forall_succ (Free.forall_succ (Free.forall_succ (Free.forall_succ (Free.forall_succ (Free.forall_succ (Free.forall_zero) ?_) ?_) ?_) ?_) ?_) ?_) ?_) ?_) ?_) ?_) ?_) ?_) ?_) ?_) ?_) ?_) ?_) ?_) ?_) ?_) ?_) ?_) ?_) ?_) ?_) ?_) ?_) ?_) ?_) ?_) ?_
        · exact Free.ob_plain _ rfl rfl fun vals wq hC hd => (by exact Free.d_move rfl (by kernel_rfl) rfl)
        · exact Free.ob_plain _ rfl rfl fun vals wq hC hd => (by exact Free.d_move rfl (by kernel_rfl) rfl)
        · exact Free.ob_plain _ rfl rfl fun vals wq hC hd => (by exact Free.d_move rfl (by kernel_rfl) rfl)
        · exact Free.ob_plain _ rfl rfl fun vals wq hC hd => (by exact Free.d_indexAddr rfl (Eq.trans (b := vals 1) (by kernel_rfl) (hd 1 (by kernel_rfl))) (Eq.trans (b := vals 2) (by kernel_rfl) (hd 2 (by kernel_rfl))) (run_idx 50 Tryd.underlying50 (by kernel_rfl) _ _ _ _ _ _ (by omega) (by omega)) rfl)
        · exact Free.ob_plain _ rfl rfl fun vals wq hC hd => (by exact Free.d_load rfl (Eq.trans (b := vals 3) (by kernel_rfl) (hd 3 (by kernel_rfl))) (by have hcc := hc0 wq hC; go_simp) rfl)
        · exact Free.ob_plain _ rfl rfl fun vals wq hC hd => (by exact Free.d_conv rfl (Eq.trans (b := vals 4) (by kernel_rfl) (hd 4 (by kernel_rfl))) (by first | (go_simp; done) | (go_simp; rw [IntWalk.u32_in _ (by omega)]) | (go_simp; rw [IntWalk.i64_in _ (by omega)]) | (go_simp; rw [IntWalk.u8_in _ (by omega)]) | (go_simp; rw [IntKind.wrap_u32]; exact nv_add _ _)) (Below.refl _ _) rfl)
        · exact Free.ob_plain _ rfl rfl fun vals wq hC hd => (by exact Free.d_bin rfl (Eq.trans (b := vals 5) (by kernel_rfl) (hd 5 (by kernel_rfl))) (show _ = (.int .u32 16777216 : Value) from rfl) (by go_simp) (by first | (go_simp; done) | (go_simp; rw [IntWalk.u32_in _ (by omega)]) | (go_simp; rw [IntWalk.i64_in _ (by omega)]) | (go_simp; rw [IntWalk.u8_in _ (by omega)]) | (go_simp; rw [IntKind.wrap_u32]; exact nv_add _ _)) rfl)
        · exact Free.ob_plain _ rfl rfl fun vals wq hC hd => (by exact Free.d_move rfl (by kernel_rfl) rfl)
        · exact Free.ob_plain _ rfl rfl fun vals wq hC hd => (by exact Free.d_move rfl (by kernel_rfl) rfl)
        · exact Free.ob_plain _ rfl rfl fun vals wq hC hd => (by exact Free.d_bin rfl (Eq.trans (b := vals 8) (by kernel_rfl) (hd 8 (by kernel_rfl))) (show _ = (.int .i64 1 : Value) from rfl) (by go_simp) (by first | (go_simp; done) | (go_simp; rw [IntWalk.u32_in _ (by omega)]) | (go_simp; rw [IntWalk.i64_in _ (by omega)]) | (go_simp; rw [IntWalk.u8_in _ (by omega)]) | (go_simp; rw [IntKind.wrap_u32]; exact nv_add _ _)) rfl)
        · exact Free.ob_plain _ rfl rfl fun vals wq hC hd => (by exact Free.d_indexAddr rfl (Eq.trans (b := vals 7) (by kernel_rfl) (hd 7 (by kernel_rfl))) (Eq.trans (b := vals 9) (by kernel_rfl) (hd 9 (by kernel_rfl))) (run_idx 50 Tryd.underlying50 (by kernel_rfl) _ _ _ _ _ _ (by omega) (by omega)) rfl)
        · exact Free.ob_plain _ rfl rfl fun vals wq hC hd => (by exact Free.d_load rfl (Eq.trans (b := vals 10) (by kernel_rfl) (hd 10 (by kernel_rfl))) (by have hcc := hc1 wq hC; go_simp) rfl)
        · exact Free.ob_plain _ rfl rfl fun vals wq hC hd => (by exact Free.d_conv rfl (Eq.trans (b := vals 11) (by kernel_rfl) (hd 11 (by kernel_rfl))) (by first | (go_simp; done) | (go_simp; rw [IntWalk.u32_in _ (by omega)]) | (go_simp; rw [IntWalk.i64_in _ (by omega)]) | (go_simp; rw [IntWalk.u8_in _ (by omega)]) | (go_simp; rw [IntKind.wrap_u32]; exact nv_add _ _)) (Below.refl _ _) rfl)
        · exact Free.ob_plain _ rfl rfl fun vals wq hC hd => (by exact Free.d_bin rfl (Eq.trans (b := vals 12) (by kernel_rfl) (hd 12 (by kernel_rfl))) (show _ = (.int .u32 65536 : Value) from rfl) (by go_simp) (by first | (go_simp; done) | (go_simp; rw [IntWalk.u32_in _ (by omega)]) | (go_simp; rw [IntWalk.i64_in _ (by omega)]) | (go_simp; rw [IntWalk.u8_in _ (by omega)]) | (go_simp; rw [IntKind.wrap_u32]; exact nv_add _ _)) rfl)
        · exact Free.ob_plain _ rfl rfl fun vals wq hC hd => (by exact Free.d_bin rfl (Eq.trans (b := vals 6) (by kernel_rfl) (hd 6 (by kernel_rfl))) (Eq.trans (b := vals 13) (by kernel_rfl) (hd 13 (by kernel_rfl))) (by go_simp) (by first | (go_simp; done) | (go_simp; rw [IntWalk.u32_in _ (by omega)]) | (go_simp; rw [IntWalk.i64_in _ (by omega)]) | (go_simp; rw [IntWalk.u8_in _ (by omega)]) | (go_simp; rw [IntKind.wrap_u32]; exact nv_add _ _)) rfl)
        · exact Free.ob_plain _ rfl rfl fun vals wq hC hd => (by exact Free.d_move rfl (by kernel_rfl) rfl)
        · exact Free.ob_plain _ rfl rfl fun vals wq hC hd => (by exact Free.d_move rfl (by kernel_rfl) rfl)
        · exact Free.ob_plain _ rfl rfl fun vals wq hC hd => (by exact Free.d_bin rfl (Eq.trans (b := vals 16) (by kernel_rfl) (hd 16 (by kernel_rfl))) (show _ = (.int .i64 2 : Value) from rfl) (by go_simp) (by first | (go_simp; done) | (go_simp; rw [IntWalk.u32_in _ (by omega)]) | (go_simp; rw [IntWalk.i64_in _ (by omega)]) | (go_simp; rw [IntWalk.u8_in _ (by omega)]) | (go_simp; rw [IntKind.wrap_u32]; exact nv_add _ _)) rfl)
        · exact Free.ob_plain _ rfl rfl fun vals wq hC hd => (by exact Free.d_indexAddr rfl (Eq.trans (b := vals 15) (by kernel_rfl) (hd 15 (by kernel_rfl))) (Eq.trans (b := vals 17) (by kernel_rfl) (hd 17 (by kernel_rfl))) (run_idx 50 Tryd.underlying50 (by kernel_rfl) _ _ _ _ _ _ (by omega) (by omega)) rfl)
        · exact Free.ob_plain _ rfl rfl fun vals wq hC hd => (by exact Free.d_load rfl (Eq.trans (b := vals 18) (by kernel_rfl) (hd 18 (by kernel_rfl))) (by have hcc := hc2 wq hC; go_simp) rfl)
        · exact Free.ob_plain _ rfl rfl fun vals wq hC hd => (by exact Free.d_conv rfl (Eq.trans (b := vals 19) (by kernel_rfl) (hd 19 (by kernel_rfl))) (by first | (go_simp; done) | (go_simp; rw [IntWalk.u32_in _ (by omega)]) | (go_simp; rw [IntWalk.i64_in _ (by omega)]) | (go_simp; rw [IntWalk.u8_in _ (by omega)]) | (go_simp; rw [IntKind.wrap_u32]; exact nv_add _ _)) (Below.refl _ _) rfl)
        · exact Free.ob_plain _ rfl rfl fun vals wq hC hd => (by exact Free.d_bin rfl (Eq.trans (b := vals 20) (by kernel_rfl) (hd 20 (by kernel_rfl))) (show _ = (.int .u32 256 : Value) from rfl) (by go_simp) (by first | (go_simp; done) | (go_simp; rw [IntWalk.u32_in _ (by omega)]) | (go_simp; rw [IntWalk.i64_in _ (by omega)]) | (go_simp; rw [IntWalk.u8_in _ (by omega)]) | (go_simp; rw [IntKind.wrap_u32]; exact nv_add _ _)) rfl)
        · exact Free.ob_plain _ rfl rfl fun vals wq hC hd => (by exact Free.d_bin rfl (Eq.trans (b := vals 14) (by kernel_rfl) (hd 14 (by kernel_rfl))) (Eq.trans (b := vals 21) (by kernel_rfl) (hd 21 (by kernel_rfl))) (by go_simp) (by first | (go_simp; done) | (go_simp; rw [IntWalk.u32_in _ (by omega)]) | (go_simp; rw [IntWalk.i64_in _ (by omega)]) | (go_simp; rw [IntWalk.u8_in _ (by omega)]) | (go_simp; rw [IntKind.wrap_u32]; exact nv_add _ _)) rfl)
        · exact Free.ob_plain _ rfl rfl fun vals wq hC hd => (by exact Free.d_move rfl (by kernel_rfl) rfl)
        · exact Free.ob_plain _ rfl rfl fun vals wq hC hd => (by exact Free.d_move rfl (by kernel_rfl) rfl)
        · exact Free.ob_plain _ rfl rfl fun vals wq hC hd => (by exact Free.d_bin rfl (Eq.trans (b := vals 24) (by kernel_rfl) (hd 24 (by kernel_rfl))) (show _ = (.int .i64 3 : Value) from rfl) (by go_simp) (by first | (go_simp; done) | (go_simp; rw [IntWalk.u32_in _ (by omega)]) | (go_simp; rw [IntWalk.i64_in _ (by omega)]) | (go_simp; rw [IntWalk.u8_in _ (by omega)]) | (go_simp; rw [IntKind.wrap_u32]; exact nv_add _ _)) rfl)
        · exact Free.ob_plain _ rfl rfl fun vals wq hC hd => (by exact Free.d_indexAddr rfl (Eq.trans (b := vals 23) (by kernel_rfl) (hd 23 (by kernel_rfl))) (Eq.trans (b := vals 25) (by kernel_rfl) (hd 25 (by kernel_rfl))) (run_idx 50 Tryd.underlying50 (by kernel_rfl) _ _ _ _ _ _ (by omega) (by omega)) rfl)
        · exact Free.ob_plain _ rfl rfl fun vals wq hC hd => (by exact Free.d_load rfl (Eq.trans (b := vals 26) (by kernel_rfl) (hd 26 (by kernel_rfl))) (by have hcc := hc3 wq hC; go_simp) rfl)
        · exact Free.ob_plain _ rfl rfl fun vals wq hC hd => (by exact Free.d_conv rfl (Eq.trans (b := vals 27) (by kernel_rfl) (hd 27 (by kernel_rfl))) (by first | (go_simp; done) | (go_simp; rw [IntWalk.u32_in _ (by omega)]) | (go_simp; rw [IntWalk.i64_in _ (by omega)]) | (go_simp; rw [IntWalk.u8_in _ (by omega)]) | (go_simp; rw [IntKind.wrap_u32]; exact nv_add _ _)) (Below.refl _ _) rfl)
        · exact Free.ob_plain _ rfl rfl fun vals wq hC hd => (by exact Free.d_bin rfl (Eq.trans (b := vals 22) (by kernel_rfl) (hd 22 (by kernel_rfl))) (Eq.trans (b := vals 28) (by kernel_rfl) (hd 28 (by kernel_rfl))) (by go_simp) (by first | (go_simp; done) | (go_simp; rw [IntWalk.u32_in _ (by omega)]) | (go_simp; rw [IntWalk.i64_in _ (by omega)]) | (go_simp; rw [IntWalk.u8_in _ (by omega)]) | (go_simp; rw [IntKind.wrap_u32]; exact nv_add _ _)) rfl)
        · exact Free.ob_plain _ rfl rfl fun vals wq hC hd => (by exact Free.d_build (w' := wq.alloc (.cells [.int .u32 ((b0.toNat : Int) * 16777216 + (b1.toNat : Int) * 65536 + (b2.toNat : Int) * 256 + (b3.toNat : Int))].toArray 67)) rfl (Free.parts1 (Eq.trans (b := vals 29) (by kernel_rfl) (hd 29 (by kernel_rfl)))) (by go_simp) ((Below.refl _ _).alloc (Nat.le_refl _) _) ⟨_, _, rfl, (rd_new wq [_] _ _).more (by unfold World.alloc; simp), Nat.le_refl _, by rw [maxLen_eq]; omega⟩)
      · intro vals wq hC hd
        have e0 : vals 0 = (.slice A' j c') := hd 0 (by decide)
        have e1 : vals 1 = (.slice (some ⟨b, off, none⟩) 64 c) := hd 1 (by decide)
        have e2 : vals 2 = (.int .i64 (k : Int)) := hd 2 (by decide)
        have e3 : vals 3 = (.pointer (some ⟨b, off + k, none⟩)) := hd 3 (by decide)
        have e4 : vals 4 = (.int .u8 (b0.toNat : Int)) := hd 4 (by decide)
        have e5 : vals 5 = (.int .u32 (b0.toNat : Int)) := hd 5 (by decide)
        have e6 : vals 6 = (.int .u32 ((b0.toNat : Int) * 16777216)) := hd 6 (by decide)
        have e7 : vals 7 = (.slice (some ⟨b, off, none⟩) 64 c) := hd 7 (by decide)
        have e8 : vals 8 = (.int .i64 (k : Int)) := hd 8 (by decide)
        have e9 : vals 9 = (.int .i64 ((k : Int) + 1)) := hd 9 (by decide)
        have e10 : vals 10 = (.pointer (some ⟨b, off + (k + 1), none⟩)) := hd 10 (by decide)
        have e11 : vals 11 = (.int .u8 (b1.toNat : Int)) := hd 11 (by decide)
        have e12 : vals 12 = (.int .u32 (b1.toNat : Int)) := hd 12 (by decide)
        have e13 : vals 13 = (.int .u32 ((b1.toNat : Int) * 65536)) := hd 13 (by decide)
        have e14 : vals 14 = (.int .u32 ((b0.toNat : Int) * 16777216 + (b1.toNat : Int) * 65536)) := hd 14 (by decide)
        have e15 : vals 15 = (.slice (some ⟨b, off, none⟩) 64 c) := hd 15 (by decide)
        have e16 : vals 16 = (.int .i64 (k : Int)) := hd 16 (by decide)
        have e17 : vals 17 = (.int .i64 ((k : Int) + 2)) := hd 17 (by decide)
        have e18 : vals 18 = (.pointer (some ⟨b, off + (k + 2), none⟩)) := hd 18 (by decide)
        have e19 : vals 19 = (.int .u8 (b2.toNat : Int)) := hd 19 (by decide)
        have e20 : vals 20 = (.int .u32 (b2.toNat : Int)) := hd 20 (by decide)
        have e21 : vals 21 = (.int .u32 ((b2.toNat : Int) * 256)) := hd 21 (by decide)
        have e22 : vals 22 = (.int .u32 ((b0.toNat : Int) * 16777216 + (b1.toNat : Int) * 65536 + (b2.toNat : Int) * 256)) := hd 22 (by decide)
        have e23 : vals 23 = (.slice (some ⟨b, off, none⟩) 64 c) := hd 23 (by decide)
        have e24 : vals 24 = (.int .i64 (k : Int)) := hd 24 (by decide)
        have e25 : vals 25 = (.int .i64 ((k : Int) + 3)) := hd 25 (by decide)
        have e26 : vals 26 = (.pointer (some ⟨b, off + (k + 3), none⟩)) := hd 26 (by decide)
        have e27 : vals 27 = (.int .u8 (b3.toNat : Int)) := hd 27 (by decide)
        have e28 : vals 28 = (.int .u32 (b3.toNat : Int)) := hd 28 (by decide)
        have e29 : vals 29 = (.int .u32 ((b0.toNat : Int) * 16777216 + (b1.toNat : Int) * 65536 + (b2.toNat : Int) * 256 + (b3.toNat : Int))) := hd 29 (by decide)
        obtain ⟨A30, k30, e30, rd30, le30, mx30⟩ := hd 30 (by decide)
        simp only [Free.frameOf, List.range, List.range.loop, List.foldl, Free.dstOf, List.getElem?_toArray, List.getElem?_cons_zero, List.getElem?_cons_succ, Option.bind_some, Act.put, List.setIfInBounds_toArray, List.set_cons_zero, List.set_cons_succ, e0, e1, e2, e3, e4, e5, e6, e7, e8, e9, e10, e11, e12, e13, e14, e15, e16, e17, e18, e19, e20, e21, e22, e23, e24, e25, e26, e27, e28, e29, e30]
        clear hd e0 e1 e2 e3 e4 e5 e6 e7 e8 e9 e10 e11 e12 e13 e14 e15 e16 e17 e18 e19 e20 e21 e22 e23 e24 e25 e26 e27 e28 e29 e30
        have HOK := Lib.hid (own_keep HO.out hC (Nat.le_refl _))
        have HBQ := Lib.hid (HB.out.trans (hC.mono HB.out.size))
        refine wl_app rfl (.tmp 12) (.tmp 42) 79 rfl w.heap.size 67 1 4 wordsT _ j _ rfl HOK.out wq.heap.size A30 1 k30 _ rfl rd30 rfl (by simp [Value.oneCell']) (by rw [maxLen_eq]; omega) (by omega) HBQ.out.size ?_
        intro A3 c3 w3 hown3 hg3 hat3 hb3 hd3 hd3'
        have HO3 := Lib.hid hown3
        have HB3 := Lib.hid (HBQ.out.trans hb3)
        have HC3 := Lib.hid (And.intro hd3 hd3')
        clear hown3 hg3 hat3 hb3 hd3 hd3' hc0 hc1 hc2 hc3
        go_wp2
        go_roundw
        case rel => exact ⟨k + 4, j + 1, A3, c3, by have := HK.out; omega, by have := HK.out; omega, by go_num, rfl, HC3.out.1, by have := HC3.out.2; rw [maxLen_eq] at this; exact this, by rw [swl_succ]; have h := HO3.out; rw [HS.out] at h; exact h, HB3.out⟩
        case measure => simp [intOf]; omega
    · have hj16 : j = 16 := by omega
      have HO16 := Lib.hid (show wr.ownsRow w.heap.size 67 1 (.slice A' 16 c') 16 (swl l 16) from hj16 ▸ hown)
      have hcap16 : 16 ≤ c' := by omega
      rw [hj16]
      clear hown hbel hk hcap1 HO
      go_wp2
      go_loopw [3, 5] (fun v i wr => ∃ (k : Nat) (A' : Option Addr) (c' : Nat), 16 ≤ k ∧ k ≤ 64 ∧ i = .int .i64 k ∧ v = .slice A' k c' ∧ k ≤ c' ∧ c' ≤ 9223372036854775807 ∧ wr.ownsRow w.heap.size 67 1 (.slice A' k c') k (swl l k) ∧ Below w.heap.size w wr) (fun _ i _ => 64 - (intOf i).toNat)
      case atStart => exact ⟨16, A', c', by omega, by omega, rfl, rfl, hcap16, hcap2, HO16.out, HB.out⟩
      clear HO16 hcap16 hcap2 HK hj16 HB hj h64
      case round =>
        obtain ⟨k, A', c', hk16, hk64, rfl, rfl, hcap1, hcap2, hown, hbel⟩ := hrel
        have HO := Lib.hid hown
        have HB := Lib.hid hbel
        have hrd := Rd.of_own hown
        by_cases hk : k < 64
        · obtain ⟨g, o, rfl, hg, hcl⟩ := hrd (fun h => by
            have h2 := congrArg List.length h
            unfold swl at h2
            simp at h2; omega)
          obtain ⟨x0, e0⟩ : ∃ x, sw l (k - 16) = x := ⟨_, rfl⟩
          obtain ⟨x1, e1⟩ : ∃ x, sw l (k - 15) = x := ⟨_, rfl⟩
          obtain ⟨x2, e2⟩ : ∃ x, sw l (k - 7) = x := ⟨_, rfl⟩
          obtain ⟨x3, e3⟩ : ∃ x, sw l (k - 2) = x := ⟨_, rfl⟩
          have c0 := hcl (k - 16) _ (swl_get l k _ (by omega))
          have c1 := hcl (k - 15) _ (swl_get l k _ (by omega))
          have c2 := hcl (k - 7) _ (swl_get l k _ (by omega))
          have c3 := hcl (k - 2) _ (swl_get l k _ (by omega))
          rw [e0] at c0
          rw [e1] at c1
          rw [e2] at c2
          rw [e3] at c3
          have hs := sw_step l k hk16 hk
          rw [e0, e1, e2, e3] at hs
          have HS := Lib.hid hs
          have HG := Lib.hid hg
          have p16 : (0 : Int) ≤ (k : Int) - 16 := by omega
          have p15 : (0 : Int) ≤ (k : Int) - 15 := by omega
          have p7 : (0 : Int) ≤ (k : Int) - 7 := by omega
          have p2 : (0 : Int) ≤ (k : Int) - 2 := by omega
          have q16 : (k : Int) - 16 < (k : Int) := by omega
          have q15 : (k : Int) - 15 < (k : Int) := by omega
          have q7 : (k : Int) - 7 < (k : Int) := by omega
          have q2 : (k : Int) - 2 < (k : Int) := by omega
          have n16 : ((k : Int) - 16).toNat = k - 16 := by omega
          have n15 : ((k : Int) - 15).toNat = k - 15 := by omega
          have n7 : ((k : Int) - 7).toNat = k - 7 := by omega
          have n2 : ((k : Int) - 2).toNat = k - 2 := by omega
          clear hs e0 e1 e2 e3 hcl hg hrd hown hbel
          have hHB := HB.out.size
          have hlow : ∀ (j : Nat) (v : Value), wr.cell? ⟨g, j, none⟩ = some v → ∀ W, Below wr.heap.size wr W → W.cell? ⟨g, j, none⟩ = some v := fun j v hv W hW => (hW.cell (p := ⟨g, j, none⟩) HG.out).trans hv
          have hq0 := hlow _ _ c0
          have hq1 := hlow _ _ c1
          have hq2 := hlow _ _ c2
          have hq3 := hlow _ _ c3
          have t1 := nv_shr3 x1
          have t3 := nv_shr10 x3
          clear hlow c0 c1 c2 c3
          go_wp2_with fail
          refine Free.wp_free_l 21 (fun W => Below wr.heap.size wr W) [Free.kc (.slice (some ⟨g, o, none⟩) k c'), Free.kc (.int .i64 (k : Int)), Free.kc (.int .i64 ((k : Int) - 15)), Free.kc (.pointer (some ⟨g, o + (k - 15), none⟩)), Free.kc (.int .u32 (nv x1)), Free.kc (.int .u32 (nv (Sha.rotr x1 7))), Free.kc (.slice (some ⟨g, o, none⟩) k c'), Free.kc (.int .i64 (k : Int)), Free.kc (.int .i64 ((k : Int) - 15)), Free.kc (.pointer (some ⟨g, o + (k - 15), none⟩)), Free.kc (.int .u32 (nv x1)), Free.kc (.int .u32 (nv (Sha.rotr x1 18))), Free.kc (.int .u32 (nv (Sha.rotr x1 7 ^^^ Sha.rotr x1 18))), Free.kc (.slice (some ⟨g, o, none⟩) k c'), Free.kc (.int .i64 (k : Int)), Free.kc (.int .i64 ((k : Int) - 15)), Free.kc (.pointer (some ⟨g, o + (k - 15), none⟩)), Free.kc (.int .u32 (nv x1)), Free.kc (.int .u32 (nv (x1 >>> 3))), Free.kc (.int .u32 (nv (Sha.rotr x1 7 ^^^ Sha.rotr x1 18 ^^^ (x1 >>> 3)))), Free.kc (.int .u32 (nv (Sha.rotr x1 7 ^^^ Sha.rotr x1 18 ^^^ (x1 >>> 3))))] (by kernel_rfl) (by kernel_rfl) (by decide) (Below.refl _ _).drew (fun w w' h g => bt h g) ?_ ?_
          · refine Free.forall_succ (Free.forall_succ (Free.forall_succ (Free.forall_succ (Free.forall_succ (Free.forall_succ (Free.forall_succ (Free.forall_succ (Free.forall_succ (Free.forall_succ (Free.forall_succ (Free.forall_succ (Free.forall_succ (Free.forall_succ (Free.forall_succ (Free.forall_succ (Free.forall_succ (Free.forall_succ (Free.forall_succ (Free.forall_succ (Free.forall_succ (Free.forall_zero) ?_) ?_) ?_) ?_) ?_) ?_) ?_) ?_) ?_) ?_) ?_) ?_) ?_) ?_) ?_) ?_) ?_) ?_) ?_) ?_) ?_
            · exact Free.ob_plain _ rfl rfl fun vals wq hC hd => (by exact Free.d_move rfl (by kernel_rfl) rfl)
            · exact Free.ob_plain _ rfl rfl fun vals wq hC hd => (by exact Free.d_move rfl (by kernel_rfl) rfl)
            · exact Free.ob_plain _ rfl rfl fun vals wq hC hd => (by exact Free.d_bin rfl (Eq.trans (b := vals 1) (by kernel_rfl) (hd 1 (by kernel_rfl))) (show _ = (.int .i64 15 : Value) from rfl) (by go_simp) (by first | (go_simp; done) | (go_simp; rw [IntWalk.u32_in _ (by omega)]) | (go_simp; rw [IntWalk.i64_in _ (by omega)]) | (go_simp; rw [IntWalk.u8_in _ (by omega)]) | (go_simp; rw [IntKind.wrap_u32]; exact nv_add _ _)) rfl)
            · exact Free.ob_plain _ rfl rfl fun vals wq hC hd => (by exact Free.d_indexAddr rfl (Eq.trans (b := vals 0) (by kernel_rfl) (hd 0 (by kernel_rfl))) (Eq.trans (b := vals 2) (by kernel_rfl) (hd 2 (by kernel_rfl))) (run_idx 79 Tryd.underlying79 (by kernel_rfl) _ _ _ _ _ _ (by omega) (by omega)) rfl)
            · exact Free.ob_plain _ rfl rfl fun vals wq hC hd => (by exact Free.d_load rfl (Eq.trans (b := vals 3) (by kernel_rfl) (hd 3 (by kernel_rfl))) (by have hcc := hq1 wq hC; go_simp) rfl)
            · exact Free.ob_plain _ rfl rfl fun vals wq hC hd => (by exact Free.d_call Tryd.func73 (by kernel_rfl) (by kernel_rfl) rfl rfl (Free.arg2 (Eq.trans (b := vals 4) (by kernel_rfl) (hd 4 (by kernel_rfl))) (show _ = (.int .i64 7 : Value) from rfl)) ((right_7 x1 wq).mono fun e w2 h => ⟨_, h.1, rfl, grow_drewN h.2⟩))
            · exact Free.ob_plain _ rfl rfl fun vals wq hC hd => (by exact Free.d_move rfl (by kernel_rfl) rfl)
            · exact Free.ob_plain _ rfl rfl fun vals wq hC hd => (by exact Free.d_move rfl (by kernel_rfl) rfl)
            · exact Free.ob_plain _ rfl rfl fun vals wq hC hd => (by exact Free.d_bin rfl (Eq.trans (b := vals 7) (by kernel_rfl) (hd 7 (by kernel_rfl))) (show _ = (.int .i64 15 : Value) from rfl) (by go_simp) (by first | (go_simp; done) | (go_simp; rw [IntWalk.u32_in _ (by omega)]) | (go_simp; rw [IntWalk.i64_in _ (by omega)]) | (go_simp; rw [IntWalk.u8_in _ (by omega)]) | (go_simp; rw [IntKind.wrap_u32]; exact nv_add _ _)) rfl)
            · exact Free.ob_plain _ rfl rfl fun vals wq hC hd => (by exact Free.d_indexAddr rfl (Eq.trans (b := vals 6) (by kernel_rfl) (hd 6 (by kernel_rfl))) (Eq.trans (b := vals 8) (by kernel_rfl) (hd 8 (by kernel_rfl))) (run_idx 79 Tryd.underlying79 (by kernel_rfl) _ _ _ _ _ _ (by omega) (by omega)) rfl)
            · exact Free.ob_plain _ rfl rfl fun vals wq hC hd => (by exact Free.d_load rfl (Eq.trans (b := vals 9) (by kernel_rfl) (hd 9 (by kernel_rfl))) (by have hcc := hq1 wq hC; go_simp) rfl)
            · exact Free.ob_plain _ rfl rfl fun vals wq hC hd => (by exact Free.d_call Tryd.func73 (by kernel_rfl) (by kernel_rfl) rfl rfl (Free.arg2 (Eq.trans (b := vals 10) (by kernel_rfl) (hd 10 (by kernel_rfl))) (show _ = (.int .i64 18 : Value) from rfl)) ((right_18 x1 wq).mono fun e w2 h => ⟨_, h.1, rfl, grow_drewN h.2⟩))
            · exact Free.ob_plain _ rfl rfl fun vals wq hC hd => (by exact Free.d_bin rfl (Eq.trans (b := vals 5) (by kernel_rfl) (hd 5 (by kernel_rfl))) (Eq.trans (b := vals 11) (by kernel_rfl) (hd 11 (by kernel_rfl))) (by go_simp) (by first | (go_simp; done) | (go_simp; rw [IntWalk.u32_in _ (by omega)]) | (go_simp; rw [IntWalk.i64_in _ (by omega)]) | (go_simp; rw [IntWalk.u8_in _ (by omega)]) | (go_simp; rw [IntKind.wrap_u32]; exact nv_add _ _)) rfl)
            · exact Free.ob_plain _ rfl rfl fun vals wq hC hd => (by exact Free.d_move rfl (by kernel_rfl) rfl)
            · exact Free.ob_plain _ rfl rfl fun vals wq hC hd => (by exact Free.d_move rfl (by kernel_rfl) rfl)
            · exact Free.ob_plain _ rfl rfl fun vals wq hC hd => (by exact Free.d_bin rfl (Eq.trans (b := vals 14) (by kernel_rfl) (hd 14 (by kernel_rfl))) (show _ = (.int .i64 15 : Value) from rfl) (by go_simp) (by first | (go_simp; done) | (go_simp; rw [IntWalk.u32_in _ (by omega)]) | (go_simp; rw [IntWalk.i64_in _ (by omega)]) | (go_simp; rw [IntWalk.u8_in _ (by omega)]) | (go_simp; rw [IntKind.wrap_u32]; exact nv_add _ _)) rfl)
            · exact Free.ob_plain _ rfl rfl fun vals wq hC hd => (by exact Free.d_indexAddr rfl (Eq.trans (b := vals 13) (by kernel_rfl) (hd 13 (by kernel_rfl))) (Eq.trans (b := vals 15) (by kernel_rfl) (hd 15 (by kernel_rfl))) (run_idx 79 Tryd.underlying79 (by kernel_rfl) _ _ _ _ _ _ (by omega) (by omega)) rfl)
            · exact Free.ob_plain _ rfl rfl fun vals wq hC hd => (by exact Free.d_load rfl (Eq.trans (b := vals 16) (by kernel_rfl) (hd 16 (by kernel_rfl))) (by have hcc := hq1 wq hC; go_simp) rfl)
            · exact Free.ob_plain _ rfl rfl fun vals wq hC hd => (by exact Free.d_bin rfl (Eq.trans (b := vals 17) (by kernel_rfl) (hd 17 (by kernel_rfl))) (show _ = (.int .u64 3 : Value) from rfl) (by go_simp) (by first | (go_simp; done) | (go_simp; rw [IntWalk.u32_in _ (by omega)]) | (go_simp; rw [IntWalk.i64_in _ (by omega)]) | (go_simp; rw [IntWalk.u8_in _ (by omega)]) | (go_simp; rw [IntKind.wrap_u32]; exact nv_add _ _)) rfl)
            · exact Free.ob_plain _ rfl rfl fun vals wq hC hd => (by exact Free.d_bin rfl (Eq.trans (b := vals 12) (by kernel_rfl) (hd 12 (by kernel_rfl))) (Eq.trans (b := vals 18) (by kernel_rfl) (hd 18 (by kernel_rfl))) (by go_simp) (by first | (go_simp; done) | (go_simp; rw [IntWalk.u32_in _ (by omega)]) | (go_simp; rw [IntWalk.i64_in _ (by omega)]) | (go_simp; rw [IntWalk.u8_in _ (by omega)]) | (go_simp; rw [IntKind.wrap_u32]; exact nv_add _ _)) rfl)
            · exact Free.ob_plain _ rfl rfl fun vals wq hC hd => (by exact Free.d_assign rfl (Eq.trans (b := vals 19) (by kernel_rfl) (hd 19 (by kernel_rfl))) rfl)
          · intro vals wq hC hd
            have e0 : vals 0 = (.slice (some ⟨g, o, none⟩) k c') := hd 0 (by decide)
            have e1 : vals 1 = (.int .i64 (k : Int)) := hd 1 (by decide)
            have e2 : vals 2 = (.int .i64 ((k : Int) - 15)) := hd 2 (by decide)
            have e3 : vals 3 = (.pointer (some ⟨g, o + (k - 15), none⟩)) := hd 3 (by decide)
            have e4 : vals 4 = (.int .u32 (nv x1)) := hd 4 (by decide)
            have e5 : vals 5 = (.int .u32 (nv (Sha.rotr x1 7))) := hd 5 (by decide)
            have e6 : vals 6 = (.slice (some ⟨g, o, none⟩) k c') := hd 6 (by decide)
            have e7 : vals 7 = (.int .i64 (k : Int)) := hd 7 (by decide)
            have e8 : vals 8 = (.int .i64 ((k : Int) - 15)) := hd 8 (by decide)
            have e9 : vals 9 = (.pointer (some ⟨g, o + (k - 15), none⟩)) := hd 9 (by decide)
            have e10 : vals 10 = (.int .u32 (nv x1)) := hd 10 (by decide)
            have e11 : vals 11 = (.int .u32 (nv (Sha.rotr x1 18))) := hd 11 (by decide)
            have e12 : vals 12 = (.int .u32 (nv (Sha.rotr x1 7 ^^^ Sha.rotr x1 18))) := hd 12 (by decide)
            have e13 : vals 13 = (.slice (some ⟨g, o, none⟩) k c') := hd 13 (by decide)
            have e14 : vals 14 = (.int .i64 (k : Int)) := hd 14 (by decide)
            have e15 : vals 15 = (.int .i64 ((k : Int) - 15)) := hd 15 (by decide)
            have e16 : vals 16 = (.pointer (some ⟨g, o + (k - 15), none⟩)) := hd 16 (by decide)
            have e17 : vals 17 = (.int .u32 (nv x1)) := hd 17 (by decide)
            have e18 : vals 18 = (.int .u32 (nv (x1 >>> 3))) := hd 18 (by decide)
            have e19 : vals 19 = (.int .u32 (nv (Sha.rotr x1 7 ^^^ Sha.rotr x1 18 ^^^ (x1 >>> 3)))) := hd 19 (by decide)
            have e20 : vals 20 = (.int .u32 (nv (Sha.rotr x1 7 ^^^ Sha.rotr x1 18 ^^^ (x1 >>> 3)))) := hd 20 (by decide)
            simp only [Free.frameOf, List.range, List.range.loop, List.foldl, Free.dstOf, List.getElem?_toArray, List.getElem?_cons_zero, List.getElem?_cons_succ, Option.bind_some, Act.put, List.setIfInBounds_toArray, List.set_cons_zero, List.set_cons_succ, e0, e1, e2, e3, e4, e5, e6, e7, e8, e9, e10, e11, e12, e13, e14, e15, e16, e17, e18, e19, e20]
            refine wpList_nil ?_
            clear hd e0 e1 e2 e3 e4 e5 e6 e7 e8 e9 e10 e11 e12 e13 e14 e15 e16 e17 e18 e19 e20
            have hq3' := fun (W : World) (hW : Below wq.heap.size wq W) => hq3 W (bt hC hW)
            have HC1 := Lib.hid hC
            clear hC hq1 hq3
            go_wp2_with fail
            refine Free.wp_free_l 21 (fun W => Below wq.heap.size wq W) [Free.kc (.slice (some ⟨g, o, none⟩) k c'), Free.kc (.int .i64 (k : Int)), Free.kc (.int .i64 ((k : Int) - 2)), Free.kc (.pointer (some ⟨g, o + (k - 2), none⟩)), Free.kc (.int .u32 (nv x3)), Free.kc (.int .u32 (nv (Sha.rotr x3 17))), Free.kc (.slice (some ⟨g, o, none⟩) k c'), Free.kc (.int .i64 (k : Int)), Free.kc (.int .i64 ((k : Int) - 2)), Free.kc (.pointer (some ⟨g, o + (k - 2), none⟩)), Free.kc (.int .u32 (nv x3)), Free.kc (.int .u32 (nv (Sha.rotr x3 19))), Free.kc (.int .u32 (nv (Sha.rotr x3 17 ^^^ Sha.rotr x3 19))), Free.kc (.slice (some ⟨g, o, none⟩) k c'), Free.kc (.int .i64 (k : Int)), Free.kc (.int .i64 ((k : Int) - 2)), Free.kc (.pointer (some ⟨g, o + (k - 2), none⟩)), Free.kc (.int .u32 (nv x3)), Free.kc (.int .u32 (nv (x3 >>> 10))), Free.kc (.int .u32 (nv (Sha.rotr x3 17 ^^^ Sha.rotr x3 19 ^^^ (x3 >>> 10)))), Free.kc (.int .u32 (nv (Sha.rotr x3 17 ^^^ Sha.rotr x3 19 ^^^ (x3 >>> 10))))] (by kernel_rfl) (by kernel_rfl) (by decide) (Below.refl _ _).drew (fun w w' h g => bt h g) ?_ ?_
            · refine Free.forall_succ (Free.forall_succ (Free.forall_succ (Free.forall_succ (Free.forall_succ (Free.forall_succ (Free.forall_succ (Free.forall_succ (Free.forall_succ (Free.forall_succ (Free.forall_succ (Free.forall_succ (Free.forall_succ (Free.forall_succ (Free.forall_succ (Free.forall_succ (Free.forall_succ (Free.forall_succ (Free.forall_succ (Free.forall_succ (Free.forall_succ (Free.forall_zero) ?_) ?_) ?_) ?_) ?_) ?_) ?_) ?_) ?_) ?_) ?_) ?_) ?_) ?_) ?_) ?_) ?_) ?_) ?_) ?_) ?_
              · exact Free.ob_plain _ rfl rfl fun vals wp hC2 hd => (by exact Free.d_move rfl (by kernel_rfl) rfl)
              · exact Free.ob_plain _ rfl rfl fun vals wp hC2 hd => (by exact Free.d_move rfl (by kernel_rfl) rfl)
              · exact Free.ob_plain _ rfl rfl fun vals wp hC2 hd => (by exact Free.d_bin rfl (Eq.trans (b := vals 1) (by kernel_rfl) (hd 1 (by kernel_rfl))) (show _ = (.int .i64 2 : Value) from rfl) (by go_simp) (by first | (go_simp; done) | (go_simp; rw [IntWalk.u32_in _ (by omega)]) | (go_simp; rw [IntWalk.i64_in _ (by omega)]) | (go_simp; rw [IntWalk.u8_in _ (by omega)]) | (go_simp; rw [IntKind.wrap_u32]; exact nv_add _ _)) rfl)
              · exact Free.ob_plain _ rfl rfl fun vals wp hC2 hd => (by exact Free.d_indexAddr rfl (Eq.trans (b := vals 0) (by kernel_rfl) (hd 0 (by kernel_rfl))) (Eq.trans (b := vals 2) (by kernel_rfl) (hd 2 (by kernel_rfl))) (run_idx 79 Tryd.underlying79 (by kernel_rfl) _ _ _ _ _ _ (by omega) (by omega)) rfl)
              · exact Free.ob_plain _ rfl rfl fun vals wp hC2 hd => (by exact Free.d_load rfl (Eq.trans (b := vals 3) (by kernel_rfl) (hd 3 (by kernel_rfl))) (by have hcc := hq3' wp hC2; go_simp) rfl)
              · exact Free.ob_plain _ rfl rfl fun vals wp hC2 hd => (by exact Free.d_call Tryd.func73 (by kernel_rfl) (by kernel_rfl) rfl rfl (Free.arg2 (Eq.trans (b := vals 4) (by kernel_rfl) (hd 4 (by kernel_rfl))) (show _ = (.int .i64 17 : Value) from rfl)) ((right_17 x3 wp).mono fun e w2 h => ⟨_, h.1, rfl, grow_drewN h.2⟩))
              · exact Free.ob_plain _ rfl rfl fun vals wp hC2 hd => (by exact Free.d_move rfl (by kernel_rfl) rfl)
              · exact Free.ob_plain _ rfl rfl fun vals wp hC2 hd => (by exact Free.d_move rfl (by kernel_rfl) rfl)
              · exact Free.ob_plain _ rfl rfl fun vals wp hC2 hd => (by exact Free.d_bin rfl (Eq.trans (b := vals 7) (by kernel_rfl) (hd 7 (by kernel_rfl))) (show _ = (.int .i64 2 : Value) from rfl) (by go_simp) (by first | (go_simp; done) | (go_simp; rw [IntWalk.u32_in _ (by omega)]) | (go_simp; rw [IntWalk.i64_in _ (by omega)]) | (go_simp; rw [IntWalk.u8_in _ (by omega)]) | (go_simp; rw [IntKind.wrap_u32]; exact nv_add _ _)) rfl)
              · exact Free.ob_plain _ rfl rfl fun vals wp hC2 hd => (by exact Free.d_indexAddr rfl (Eq.trans (b := vals 6) (by kernel_rfl) (hd 6 (by kernel_rfl))) (Eq.trans (b := vals 8) (by kernel_rfl) (hd 8 (by kernel_rfl))) (run_idx 79 Tryd.underlying79 (by kernel_rfl) _ _ _ _ _ _ (by omega) (by omega)) rfl)
              · exact Free.ob_plain _ rfl rfl fun vals wp hC2 hd => (by exact Free.d_load rfl (Eq.trans (b := vals 9) (by kernel_rfl) (hd 9 (by kernel_rfl))) (by have hcc := hq3' wp hC2; go_simp) rfl)
              · exact Free.ob_plain _ rfl rfl fun vals wp hC2 hd => (by exact Free.d_call Tryd.func73 (by kernel_rfl) (by kernel_rfl) rfl rfl (Free.arg2 (Eq.trans (b := vals 10) (by kernel_rfl) (hd 10 (by kernel_rfl))) (show _ = (.int .i64 19 : Value) from rfl)) ((right_19 x3 wp).mono fun e w2 h => ⟨_, h.1, rfl, grow_drewN h.2⟩))
              · exact Free.ob_plain _ rfl rfl fun vals wp hC2 hd => (by exact Free.d_bin rfl (Eq.trans (b := vals 5) (by kernel_rfl) (hd 5 (by kernel_rfl))) (Eq.trans (b := vals 11) (by kernel_rfl) (hd 11 (by kernel_rfl))) (by go_simp) (by first | (go_simp; done) | (go_simp; rw [IntWalk.u32_in _ (by omega)]) | (go_simp; rw [IntWalk.i64_in _ (by omega)]) | (go_simp; rw [IntWalk.u8_in _ (by omega)]) | (go_simp; rw [IntKind.wrap_u32]; exact nv_add _ _)) rfl)
              · exact Free.ob_plain _ rfl rfl fun vals wp hC2 hd => (by exact Free.d_move rfl (by kernel_rfl) rfl)
              · exact Free.ob_plain _ rfl rfl fun vals wp hC2 hd => (by exact Free.d_move rfl (by kernel_rfl) rfl)
              · exact Free.ob_plain _ rfl rfl fun vals wp hC2 hd => (by exact Free.d_bin rfl (Eq.trans (b := vals 14) (by kernel_rfl) (hd 14 (by kernel_rfl))) (show _ = (.int .i64 2 : Value) from rfl) (by go_simp) (by first | (go_simp; done) | (go_simp; rw [IntWalk.u32_in _ (by omega)]) | (go_simp; rw [IntWalk.i64_in _ (by omega)]) | (go_simp; rw [IntWalk.u8_in _ (by omega)]) | (go_simp; rw [IntKind.wrap_u32]; exact nv_add _ _)) rfl)
              · exact Free.ob_plain _ rfl rfl fun vals wp hC2 hd => (by exact Free.d_indexAddr rfl (Eq.trans (b := vals 13) (by kernel_rfl) (hd 13 (by kernel_rfl))) (Eq.trans (b := vals 15) (by kernel_rfl) (hd 15 (by kernel_rfl))) (run_idx 79 Tryd.underlying79 (by kernel_rfl) _ _ _ _ _ _ (by omega) (by omega)) rfl)
              · exact Free.ob_plain _ rfl rfl fun vals wp hC2 hd => (by exact Free.d_load rfl (Eq.trans (b := vals 16) (by kernel_rfl) (hd 16 (by kernel_rfl))) (by have hcc := hq3' wp hC2; go_simp) rfl)
              · exact Free.ob_plain _ rfl rfl fun vals wp hC2 hd => (by exact Free.d_bin rfl (Eq.trans (b := vals 17) (by kernel_rfl) (hd 17 (by kernel_rfl))) (show _ = (.int .u64 10 : Value) from rfl) (by go_simp) (by first | (go_simp; done) | (go_simp; rw [IntWalk.u32_in _ (by omega)]) | (go_simp; rw [IntWalk.i64_in _ (by omega)]) | (go_simp; rw [IntWalk.u8_in _ (by omega)]) | (go_simp; rw [IntKind.wrap_u32]; exact nv_add _ _)) rfl)
              · exact Free.ob_plain _ rfl rfl fun vals wp hC2 hd => (by exact Free.d_bin rfl (Eq.trans (b := vals 12) (by kernel_rfl) (hd 12 (by kernel_rfl))) (Eq.trans (b := vals 18) (by kernel_rfl) (hd 18 (by kernel_rfl))) (by go_simp) (by first | (go_simp; done) | (go_simp; rw [IntWalk.u32_in _ (by omega)]) | (go_simp; rw [IntWalk.i64_in _ (by omega)]) | (go_simp; rw [IntWalk.u8_in _ (by omega)]) | (go_simp; rw [IntKind.wrap_u32]; exact nv_add _ _)) rfl)
              · exact Free.ob_plain _ rfl rfl fun vals wp hC2 hd => (by exact Free.d_assign rfl (Eq.trans (b := vals 19) (by kernel_rfl) (hd 19 (by kernel_rfl))) rfl)
            · intro vals wp hC2 hd
              have e0 : vals 0 = (.slice (some ⟨g, o, none⟩) k c') := hd 0 (by decide)
              have e1 : vals 1 = (.int .i64 (k : Int)) := hd 1 (by decide)
              have e2 : vals 2 = (.int .i64 ((k : Int) - 2)) := hd 2 (by decide)
              have e3 : vals 3 = (.pointer (some ⟨g, o + (k - 2), none⟩)) := hd 3 (by decide)
              have e4 : vals 4 = (.int .u32 (nv x3)) := hd 4 (by decide)
              have e5 : vals 5 = (.int .u32 (nv (Sha.rotr x3 17))) := hd 5 (by decide)
              have e6 : vals 6 = (.slice (some ⟨g, o, none⟩) k c') := hd 6 (by decide)
              have e7 : vals 7 = (.int .i64 (k : Int)) := hd 7 (by decide)
              have e8 : vals 8 = (.int .i64 ((k : Int) - 2)) := hd 8 (by decide)
              have e9 : vals 9 = (.pointer (some ⟨g, o + (k - 2), none⟩)) := hd 9 (by decide)
              have e10 : vals 10 = (.int .u32 (nv x3)) := hd 10 (by decide)
              have e11 : vals 11 = (.int .u32 (nv (Sha.rotr x3 19))) := hd 11 (by decide)
              have e12 : vals 12 = (.int .u32 (nv (Sha.rotr x3 17 ^^^ Sha.rotr x3 19))) := hd 12 (by decide)
              have e13 : vals 13 = (.slice (some ⟨g, o, none⟩) k c') := hd 13 (by decide)
              have e14 : vals 14 = (.int .i64 (k : Int)) := hd 14 (by decide)
              have e15 : vals 15 = (.int .i64 ((k : Int) - 2)) := hd 15 (by decide)
              have e16 : vals 16 = (.pointer (some ⟨g, o + (k - 2), none⟩)) := hd 16 (by decide)
              have e17 : vals 17 = (.int .u32 (nv x3)) := hd 17 (by decide)
              have e18 : vals 18 = (.int .u32 (nv (x3 >>> 10))) := hd 18 (by decide)
              have e19 : vals 19 = (.int .u32 (nv (Sha.rotr x3 17 ^^^ Sha.rotr x3 19 ^^^ (x3 >>> 10)))) := hd 19 (by decide)
              have e20 : vals 20 = (.int .u32 (nv (Sha.rotr x3 17 ^^^ Sha.rotr x3 19 ^^^ (x3 >>> 10)))) := hd 20 (by decide)
              simp only [Free.frameOf, List.range, List.range.loop, List.foldl, Free.dstOf, List.getElem?_toArray, List.getElem?_cons_zero, List.getElem?_cons_succ, Option.bind_some, Act.put, List.setIfInBounds_toArray, List.set_cons_zero, List.set_cons_succ, e0, e1, e2, e3, e4, e5, e6, e7, e8, e9, e10, e11, e12, e13, e14, e15, e16, e17, e18, e19, e20]
              refine wpList_nil ?_
              clear hd e0 e1 e2 e3 e4 e5 e6 e7 e8 e9 e10 e11 e12 e13 e14 e15 e16 e17 e18 e19 e20
              have HC2 := Lib.hid (bt HC1.out hC2)
              have hq0' := fun (W : World) (hW : Below wp.heap.size wp W) => hq0 W (bt HC2.out hW)
              have hq2' := fun (W : World) (hW : Below wp.heap.size wp W) => hq2 W (bt HC2.out hW)
              obtain ⟨y0, hy0⟩ : ∃ y, Sha.rotr x1 7 ^^^ Sha.rotr x1 18 ^^^ x1 >>> 3 = y := ⟨_, rfl⟩
              obtain ⟨y1, hy1⟩ : ∃ y, Sha.rotr x3 17 ^^^ Sha.rotr x3 19 ^^^ x3 >>> 10 = y := ⟨_, rfl⟩
              rw [hy0, hy1]
              have HY := Lib.hid (And.intro hy0 hy1)
              clear hC2 hq0 hq2 hq3' hy0 hy1 t1 t3 HC1
              go_wp2_with fail
              refine Free.wp_free_l 17 (fun W => Below wp.heap.size wp W) [Free.kc (.slice (some ⟨g, o, none⟩) k c'), Free.kc (.slice (some ⟨g, o, none⟩) k c'), Free.kc (.int .i64 (k : Int)), Free.kc (.int .i64 ((k : Int) - 16)), Free.kc (.pointer (some ⟨g, o + (k - 16), none⟩)), Free.kc (.int .u32 (nv x0)), Free.kc (.int .u32 (nv y0)), Free.kc (.int .u32 (nv (x0 + y0))), Free.kc (.slice (some ⟨g, o, none⟩) k c'), Free.kc (.int .i64 (k : Int)), Free.kc (.int .i64 ((k : Int) - 7)), Free.kc (.pointer (some ⟨g, o + (k - 7), none⟩)), Free.kc (.int .u32 (nv x2)), Free.kc (.int .u32 (nv (x0 + y0 + x2))), Free.kc (.int .u32 (nv y1)), Free.kc (.int .u32 (nv (x0 + y0 + x2 + y1))), Free.kr (1) ([.int .u32 (nv (x0 + y0 + x2 + y1))])] (by kernel_rfl) (by kernel_rfl) (by decide) (Below.refl _ _).drew (fun w w' h g => bt h g) ?_ ?_
              · refine Free.forall_succ (Free.forall_succ (Free.forall_succ (Free.forall_succ (Free.forall_succ (Free.forall_succ (Free.forall_succ (Free.forall_succ (Free.forall_succ (Free.forall_succ (Free.forall_succ (Free.forall_succ (Free.forall_succ (Free.forall_succ (Free.forall_succ (Free.forall_succ (Free.forall_succ (Free.forall_zero) ?_) ?_) ?_) ?_) ?_) ?_) ?_) ?_) ?_) ?_) ?_) ?_) ?_) ?_) ?_) ?_) ?_
                · exact Free.ob_plain _ rfl rfl fun vals wr3 hC3 hd => (by exact Free.d_move rfl (by kernel_rfl) rfl)
                · exact Free.ob_plain _ rfl rfl fun vals wr3 hC3 hd => (by exact Free.d_move rfl (by kernel_rfl) rfl)
                · exact Free.ob_plain _ rfl rfl fun vals wr3 hC3 hd => (by exact Free.d_move rfl (by kernel_rfl) rfl)
                · exact Free.ob_plain _ rfl rfl fun vals wr3 hC3 hd => (by exact Free.d_bin rfl (Eq.trans (b := vals 2) (by kernel_rfl) (hd 2 (by kernel_rfl))) (show _ = (.int .i64 16 : Value) from rfl) (by go_simp) (by first | (go_simp; done) | (go_simp; rw [IntWalk.u32_in _ (by omega)]) | (go_simp; rw [IntWalk.i64_in _ (by omega)]) | (go_simp; rw [IntWalk.u8_in _ (by omega)]) | (go_simp; rw [IntKind.wrap_u32]; exact nv_add _ _)) rfl)
                · exact Free.ob_plain _ rfl rfl fun vals wr3 hC3 hd => (by exact Free.d_indexAddr rfl (Eq.trans (b := vals 1) (by kernel_rfl) (hd 1 (by kernel_rfl))) (Eq.trans (b := vals 3) (by kernel_rfl) (hd 3 (by kernel_rfl))) (run_idx 79 Tryd.underlying79 (by kernel_rfl) _ _ _ _ _ _ (by omega) (by omega)) rfl)
                · exact Free.ob_plain _ rfl rfl fun vals wr3 hC3 hd => (by exact Free.d_load rfl (Eq.trans (b := vals 4) (by kernel_rfl) (hd 4 (by kernel_rfl))) (by have hcc := hq0' wr3 hC3; go_simp) rfl)
                · exact Free.ob_plain _ rfl rfl fun vals wr3 hC3 hd => (by exact Free.d_move rfl (by kernel_rfl) rfl)
                · exact Free.ob_plain _ rfl rfl fun vals wr3 hC3 hd => (by exact Free.d_bin rfl (Eq.trans (b := vals 5) (by kernel_rfl) (hd 5 (by kernel_rfl))) (Eq.trans (b := vals 6) (by kernel_rfl) (hd 6 (by kernel_rfl))) (by go_simp) (by first | (go_simp; done) | (go_simp; rw [IntWalk.u32_in _ (by omega)]) | (go_simp; rw [IntWalk.i64_in _ (by omega)]) | (go_simp; rw [IntWalk.u8_in _ (by omega)]) | (go_simp; rw [IntKind.wrap_u32]; exact nv_add _ _)) rfl)
                · exact Free.ob_plain _ rfl rfl fun vals wr3 hC3 hd => (by exact Free.d_move rfl (by kernel_rfl) rfl)
                · exact Free.ob_plain _ rfl rfl fun vals wr3 hC3 hd => (by exact Free.d_move rfl (by kernel_rfl) rfl)
                · exact Free.ob_plain _ rfl rfl fun vals wr3 hC3 hd => (by exact Free.d_bin rfl (Eq.trans (b := vals 9) (by kernel_rfl) (hd 9 (by kernel_rfl))) (show _ = (.int .i64 7 : Value) from rfl) (by go_simp) (by first | (go_simp; done) | (go_simp; rw [IntWalk.u32_in _ (by omega)]) | (go_simp; rw [IntWalk.i64_in _ (by omega)]) | (go_simp; rw [IntWalk.u8_in _ (by omega)]) | (go_simp; rw [IntKind.wrap_u32]; exact nv_add _ _)) rfl)
                · exact Free.ob_plain _ rfl rfl fun vals wr3 hC3 hd => (by exact Free.d_indexAddr rfl (Eq.trans (b := vals 8) (by kernel_rfl) (hd 8 (by kernel_rfl))) (Eq.trans (b := vals 10) (by kernel_rfl) (hd 10 (by kernel_rfl))) (run_idx 79 Tryd.underlying79 (by kernel_rfl) _ _ _ _ _ _ (by omega) (by omega)) rfl)
                · exact Free.ob_plain _ rfl rfl fun vals wr3 hC3 hd => (by exact Free.d_load rfl (Eq.trans (b := vals 11) (by kernel_rfl) (hd 11 (by kernel_rfl))) (by have hcc := hq2' wr3 hC3; go_simp) rfl)
                · exact Free.ob_plain _ rfl rfl fun vals wr3 hC3 hd => (by exact Free.d_bin rfl (Eq.trans (b := vals 7) (by kernel_rfl) (hd 7 (by kernel_rfl))) (Eq.trans (b := vals 12) (by kernel_rfl) (hd 12 (by kernel_rfl))) (by go_simp) (by first | (go_simp; done) | (go_simp; rw [IntWalk.u32_in _ (by omega)]) | (go_simp; rw [IntWalk.i64_in _ (by omega)]) | (go_simp; rw [IntWalk.u8_in _ (by omega)]) | (go_simp; rw [IntKind.wrap_u32]; exact nv_add _ _)) rfl)
                · exact Free.ob_plain _ rfl rfl fun vals wr3 hC3 hd => (by exact Free.d_move rfl (by kernel_rfl) rfl)
                · exact Free.ob_plain _ rfl rfl fun vals wr3 hC3 hd => (by exact Free.d_bin rfl (Eq.trans (b := vals 13) (by kernel_rfl) (hd 13 (by kernel_rfl))) (Eq.trans (b := vals 14) (by kernel_rfl) (hd 14 (by kernel_rfl))) (by go_simp) (by first | (go_simp; done) | (go_simp; rw [IntWalk.u32_in _ (by omega)]) | (go_simp; rw [IntWalk.i64_in _ (by omega)]) | (go_simp; rw [IntWalk.u8_in _ (by omega)]) | (go_simp; rw [IntKind.wrap_u32]; exact nv_add _ _)) rfl)
                · exact Free.ob_plain _ rfl rfl fun vals wr3 hC3 hd => (by exact Free.d_build (w' := wr3.alloc (.cells [.int .u32 (nv (x0 + y0 + x2 + y1))].toArray 67)) rfl (Free.parts1 (Eq.trans (b := vals 15) (by kernel_rfl) (hd 15 (by kernel_rfl)))) (by go_simp) ((Below.refl _ _).alloc (Nat.le_refl _) _) ⟨_, _, rfl, (rd_new wr3 [_] _ _).more (by unfold World.alloc; simp), Nat.le_refl _, by rw [maxLen_eq]; omega⟩)
              · intro vals wr3 hC3 hd
                have e0 : vals 0 = (.slice (some ⟨g, o, none⟩) k c') := hd 0 (by decide)
                have e1 : vals 1 = (.slice (some ⟨g, o, none⟩) k c') := hd 1 (by decide)
                have e2 : vals 2 = (.int .i64 (k : Int)) := hd 2 (by decide)
                have e3 : vals 3 = (.int .i64 ((k : Int) - 16)) := hd 3 (by decide)
                have e4 : vals 4 = (.pointer (some ⟨g, o + (k - 16), none⟩)) := hd 4 (by decide)
                have e5 : vals 5 = (.int .u32 (nv x0)) := hd 5 (by decide)
                have e6 : vals 6 = (.int .u32 (nv y0)) := hd 6 (by decide)
                have e7 : vals 7 = (.int .u32 (nv (x0 + y0))) := hd 7 (by decide)
                have e8 : vals 8 = (.slice (some ⟨g, o, none⟩) k c') := hd 8 (by decide)
                have e9 : vals 9 = (.int .i64 (k : Int)) := hd 9 (by decide)
                have e10 : vals 10 = (.int .i64 ((k : Int) - 7)) := hd 10 (by decide)
                have e11 : vals 11 = (.pointer (some ⟨g, o + (k - 7), none⟩)) := hd 11 (by decide)
                have e12 : vals 12 = (.int .u32 (nv x2)) := hd 12 (by decide)
                have e13 : vals 13 = (.int .u32 (nv (x0 + y0 + x2))) := hd 13 (by decide)
                have e14 : vals 14 = (.int .u32 (nv y1)) := hd 14 (by decide)
                have e15 : vals 15 = (.int .u32 (nv (x0 + y0 + x2 + y1))) := hd 15 (by decide)
                obtain ⟨A16, k16, e16, rd16, le16, mx16⟩ := hd 16 (by decide)
                simp only [Free.frameOf, List.range, List.range.loop, List.foldl, Free.dstOf, List.getElem?_toArray, List.getElem?_cons_zero, List.getElem?_cons_succ, Option.bind_some, Act.put, List.setIfInBounds_toArray, List.set_cons_zero, List.set_cons_succ, e0, e1, e2, e3, e4, e5, e6, e7, e8, e9, e10, e11, e12, e13, e14, e15, e16]
                clear hd e0 e1 e2 e3 e4 e5 e6 e7 e8 e9 e10 e11 e12 e13 e14 e15 e16
                have HB3 := Lib.hid (bt HC2.out hC3)
                have HOK := Lib.hid (own_keep HO.out HB3.out (Nat.le_refl _))
                have HBQ := Lib.hid (HB.out.trans (HB3.out.mono HB.out.size))
                refine wl_app rfl (.tmp 88) (.tmp 104) 79 rfl w.heap.size 67 1 4 wordsT _ k _ rfl HOK.out wr3.heap.size A16 1 k16 _ rfl rd16 rfl (by simp [Value.oneCell']) (by rw [maxLen_eq]; omega) (by omega) HBQ.out.size ?_
                intro A3 c3 w3 hown3 hg3 hat3 hb3 hd3 hd3'
                have HO3 := Lib.hid hown3
                have HB3 := Lib.hid (HBQ.out.trans hb3)
                have HC3 := Lib.hid (And.intro hd3 hd3')
                clear hown3 hg3 hat3 hb3 hd3 hd3' hq0' hq2'
                go_wp2
                go_roundw
                case rel => exact ⟨k + 1, A3, c3, by omega, by omega, by go_num, rfl, HC3.out.1, by have := HC3.out.2; rw [maxLen_eq] at this; exact this, by rw [swl_succ, HS.out]; have h := HO3.out; rw [← HY.out.1, ← HY.out.2] at h; exact h, HB3.out⟩
                case measure => simp [intOf]; omega
        · have hk6 : k = 64 := by omega
          have HF := Lib.hid (show Rd wr wr.heap.size A' (swl l 64) from hk6 ▸ hrd)
          rw [hk6]
          clear hrd hown hbel HO hcap1
          go_wp2
          go_ret
          exact ⟨A', c', rfl, HF.out, HB.out⟩
end Go.Proofs.YtoiilhbjlfdfpaaDoor
