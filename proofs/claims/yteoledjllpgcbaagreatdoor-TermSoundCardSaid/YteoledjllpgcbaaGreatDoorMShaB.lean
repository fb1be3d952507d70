/- MShaB: several texts of this claim in one file. No statement of the seat is proved here. -/
import Derived.Test.YteoledjllpgcbaaGreatDoorMShaP
import Derived.Test.YteoledjllpgcbaaGreatDoorMShaA
import Derived.Test.YteoledjllpgcbaaGreatDoorMBase
import Derived.BigRegion
namespace Go.Proofs.YteoledjllpgcbaaGreatDoor
set_option maxRecDepth 100000
set_option maxHeartbeats 64000000
set_option linter.unusedVariables false
open Go.RowKit
theorem str_size (l : List UInt8) : (str l).size = l.length := by simp [str, ByteArray.size]
abbrev RightPost (y : UInt32) (w : World) (e : Ending) (w' : World) : Prop := e = .returned (.int .u32 (nv y)) ∧ ∃ m, w' = w.drewN m
theorem right_7 (x : UInt32) (w : World) : Calls Tryz.prog 141 #[.int .u32 (nv x), .int .i64 7] w (RightPost (Sha.rotr x 7) w) := by
 have h0 := nv_lo x
 have h1 := nv_hi x
 have hb : (nv x / 128 + nv x * 33554432 % 4294967296) % 4294967296 = nv (Sha.rotr x 7) := by
  rw [nv_shl x 25 (by decide) 33554432 (by decide), nv_shr x 7 (by decide) 128 (by decide), nv_add]
  exact congrArg nv (rot_bits x _ 7 (by decide) (by decide) rfl)
 have hb2 : nv x / 128 + nv x * 33554432 % 4294967296 = nv (Sha.rotr x 7) := by omega
 have HB := Lib.hid hb2
 clear hb hb2
 go_enter Tryz.func141, Tryz.ntmps141
 go_wp2_with fail
 go_quiet (fail)
 go_wp2
 go_ret
 exact ⟨congrArg (fun v => Ending.returned (Value.int .u32 v)) HB.out, _, rfl⟩
theorem right_18 (x : UInt32) (w : World) : Calls Tryz.prog 141 #[.int .u32 (nv x), .int .i64 18] w (RightPost (Sha.rotr x 18) w) := by
 have h0 := nv_lo x
 have h1 := nv_hi x
 have hb : (nv x / 262144 + nv x * 16384 % 4294967296) % 4294967296 = nv (Sha.rotr x 18) := by
  rw [nv_shl x 14 (by decide) 16384 (by decide), nv_shr x 18 (by decide) 262144 (by decide), nv_add]
  exact congrArg nv (rot_bits x _ 18 (by decide) (by decide) rfl)
 have hb2 : nv x / 262144 + nv x * 16384 % 4294967296 = nv (Sha.rotr x 18) := by omega
 have HB := Lib.hid hb2
 clear hb hb2
 go_enter Tryz.func141, Tryz.ntmps141
 go_wp2_with fail
 go_quiet (fail)
 go_wp2
 go_ret
 exact ⟨congrArg (fun v => Ending.returned (Value.int .u32 v)) HB.out, _, rfl⟩
theorem right_17 (x : UInt32) (w : World) : Calls Tryz.prog 141 #[.int .u32 (nv x), .int .i64 17] w (RightPost (Sha.rotr x 17) w) := by
 have h0 := nv_lo x
 have h1 := nv_hi x
 have hb : (nv x / 131072 + nv x * 32768 % 4294967296) % 4294967296 = nv (Sha.rotr x 17) := by
  rw [nv_shl x 15 (by decide) 32768 (by decide), nv_shr x 17 (by decide) 131072 (by decide), nv_add]
  exact congrArg nv (rot_bits x _ 17 (by decide) (by decide) rfl)
 have hb2 : nv x / 131072 + nv x * 32768 % 4294967296 = nv (Sha.rotr x 17) := by omega
 have HB := Lib.hid hb2
 clear hb hb2
 go_enter Tryz.func141, Tryz.ntmps141
 go_wp2_with fail
 go_quiet (fail)
 go_wp2
 go_ret
 exact ⟨congrArg (fun v => Ending.returned (Value.int .u32 v)) HB.out, _, rfl⟩
theorem right_19 (x : UInt32) (w : World) : Calls Tryz.prog 141 #[.int .u32 (nv x), .int .i64 19] w (RightPost (Sha.rotr x 19) w) := by
 have h0 := nv_lo x
 have h1 := nv_hi x
 have hb : (nv x / 524288 + nv x * 8192 % 4294967296) % 4294967296 = nv (Sha.rotr x 19) := by
  rw [nv_shl x 13 (by decide) 8192 (by decide), nv_shr x 19 (by decide) 524288 (by decide), nv_add]
  exact congrArg nv (rot_bits x _ 19 (by decide) (by decide) rfl)
 have hb2 : nv x / 524288 + nv x * 8192 % 4294967296 = nv (Sha.rotr x 19) := by omega
 have HB := Lib.hid hb2
 clear hb hb2
 go_enter Tryz.func141, Tryz.ntmps141
 go_wp2_with fail
 go_quiet (fail)
 go_wp2
 go_ret
 exact ⟨congrArg (fun v => Ending.returned (Value.int .u32 v)) HB.out, _, rfl⟩
theorem right_6 (x : UInt32) (w : World) : Calls Tryz.prog 141 #[.int .u32 (nv x), .int .i64 6] w (RightPost (Sha.rotr x 6) w) := by
 have h0 := nv_lo x
 have h1 := nv_hi x
 have hb : (nv x / 64 + nv x * 67108864 % 4294967296) % 4294967296 = nv (Sha.rotr x 6) := by
  rw [nv_shl x 26 (by decide) 67108864 (by decide), nv_shr x 6 (by decide) 64 (by decide), nv_add]
  exact congrArg nv (rot_bits x _ 6 (by decide) (by decide) rfl)
 have hb2 : nv x / 64 + nv x * 67108864 % 4294967296 = nv (Sha.rotr x 6) := by omega
 have HB := Lib.hid hb2
 clear hb hb2
 go_enter Tryz.func141, Tryz.ntmps141
 go_wp2_with fail
 go_quiet (fail)
 go_wp2
 go_ret
 exact ⟨congrArg (fun v => Ending.returned (Value.int .u32 v)) HB.out, _, rfl⟩
theorem right_11 (x : UInt32) (w : World) : Calls Tryz.prog 141 #[.int .u32 (nv x), .int .i64 11] w (RightPost (Sha.rotr x 11) w) := by
 have h0 := nv_lo x
 have h1 := nv_hi x
 have hb : (nv x / 2048 + nv x * 2097152 % 4294967296) % 4294967296 = nv (Sha.rotr x 11) := by
  rw [nv_shl x 21 (by decide) 2097152 (by decide), nv_shr x 11 (by decide) 2048 (by decide), nv_add]
  exact congrArg nv (rot_bits x _ 11 (by decide) (by decide) rfl)
 have hb2 : nv x / 2048 + nv x * 2097152 % 4294967296 = nv (Sha.rotr x 11) := by omega
 have HB := Lib.hid hb2
 clear hb hb2
 go_enter Tryz.func141, Tryz.ntmps141
 go_wp2_with fail
 go_quiet (fail)
 go_wp2
 go_ret
 exact ⟨congrArg (fun v => Ending.returned (Value.int .u32 v)) HB.out, _, rfl⟩
theorem right_25 (x : UInt32) (w : World) : Calls Tryz.prog 141 #[.int .u32 (nv x), .int .i64 25] w (RightPost (Sha.rotr x 25) w) := by
 have h0 := nv_lo x
 have h1 := nv_hi x
 have hb : (nv x / 33554432 + nv x * 128 % 4294967296) % 4294967296 = nv (Sha.rotr x 25) := by
  rw [nv_shl x 7 (by decide) 128 (by decide), nv_shr x 25 (by decide) 33554432 (by decide), nv_add]
  exact congrArg nv (rot_bits x _ 25 (by decide) (by decide) rfl)
 have hb2 : nv x / 33554432 + nv x * 128 % 4294967296 = nv (Sha.rotr x 25) := by omega
 have HB := Lib.hid hb2
 clear hb hb2
 go_enter Tryz.func141, Tryz.ntmps141
 go_wp2_with fail
 go_quiet (fail)
 go_wp2
 go_ret
 exact ⟨congrArg (fun v => Ending.returned (Value.int .u32 v)) HB.out, _, rfl⟩
theorem right_2 (x : UInt32) (w : World) : Calls Tryz.prog 141 #[.int .u32 (nv x), .int .i64 2] w (RightPost (Sha.rotr x 2) w) := by
 have h0 := nv_lo x
 have h1 := nv_hi x
 have hb : (nv x / 4 + nv x * 1073741824 % 4294967296) % 4294967296 = nv (Sha.rotr x 2) := by
  rw [nv_shl x 30 (by decide) 1073741824 (by decide), nv_shr x 2 (by decide) 4 (by decide), nv_add]
  exact congrArg nv (rot_bits x _ 2 (by decide) (by decide) rfl)
 have hb2 : nv x / 4 + nv x * 1073741824 % 4294967296 = nv (Sha.rotr x 2) := by omega
 have HB := Lib.hid hb2
 clear hb hb2
 go_enter Tryz.func141, Tryz.ntmps141
 go_wp2_with fail
 go_quiet (fail)
 go_wp2
 go_ret
 exact ⟨congrArg (fun v => Ending.returned (Value.int .u32 v)) HB.out, _, rfl⟩
theorem right_13 (x : UInt32) (w : World) : Calls Tryz.prog 141 #[.int .u32 (nv x), .int .i64 13] w (RightPost (Sha.rotr x 13) w) := by
 have h0 := nv_lo x
 have h1 := nv_hi x
 have hb : (nv x / 8192 + nv x * 524288 % 4294967296) % 4294967296 = nv (Sha.rotr x 13) := by
  rw [nv_shl x 19 (by decide) 524288 (by decide), nv_shr x 13 (by decide) 8192 (by decide), nv_add]
  exact congrArg nv (rot_bits x _ 13 (by decide) (by decide) rfl)
 have hb2 : nv x / 8192 + nv x * 524288 % 4294967296 = nv (Sha.rotr x 13) := by omega
 have HB := Lib.hid hb2
 clear hb hb2
 go_enter Tryz.func141, Tryz.ntmps141
 go_wp2_with fail
 go_quiet (fail)
 go_wp2
 go_ret
 exact ⟨congrArg (fun v => Ending.returned (Value.int .u32 v)) HB.out, _, rfl⟩
theorem right_22 (x : UInt32) (w : World) : Calls Tryz.prog 141 #[.int .u32 (nv x), .int .i64 22] w (RightPost (Sha.rotr x 22) w) := by
 have h0 := nv_lo x
 have h1 := nv_hi x
 have hb : (nv x / 4194304 + nv x * 1024 % 4294967296) % 4294967296 = nv (Sha.rotr x 22) := by
  rw [nv_shl x 10 (by decide) 1024 (by decide), nv_shr x 22 (by decide) 4194304 (by decide), nv_add]
  exact congrArg nv (rot_bits x _ 22 (by decide) (by decide) rfl)
 have hb2 : nv x / 4194304 + nv x * 1024 % 4294967296 = nv (Sha.rotr x 22) := by omega
 have HB := Lib.hid hb2
 clear hb hb2
 go_enter Tryz.func141, Tryz.ntmps141
 go_wp2_with fail
 go_quiet (fail)
 go_wp2
 go_ret
 exact ⟨congrArg (fun v => Ending.returned (Value.int .u32 v)) HB.out, _, rfl⟩
def uv (x : UInt32) : Value := .int .u32 (nv x)
theorem wordsT : ElemT Tryz.prog 161 144 1 4 := ElemT.mk' Tryz.underlying161 info_u32 rfl (by omega)
def ConstPost (w : World) (e : Ending) (w' : World) : Prop :=
 ∃ g o, e = .returned (.slice (some ⟨g, o, none⟩) 64 64) ∧ g < w'.heap.size ∧ (∀ j, j < 64 → w'.cell? ⟨g, o + j, none⟩ = some (.int .u32 (nv (cst j)))) ∧ Below w.heap.size w w'
theorem const_mk {w : World} (cs : Array Value) (t : TypeId) (h : cs = (Sha.consts.map uv).toArray) : ConstPost w (.returned (.slice (some ⟨w.heap.size, 0, none⟩) 64 64)) (w.alloc (.cells cs t)) := by
 subst h
 refine ⟨w.heap.size, 0, rfl, by unfold World.alloc; simp, fun j hj => ?_, (Below.refl _ w).alloc (Nat.le_refl _) _⟩
 have h64 : Sha.consts.length = 64 := rfl
 have h1 : Sha.consts[j]? = some (cst j) := by
  unfold cst
  rw [List.getElem?_eq_getElem (by omega)]
  simp [List.getD, List.getElem?_eq_getElem (show j < Sha.consts.length by omega)]
 rw [Nat.zero_add]
 exact (row_new w _ _).cellQ j _ (by rw [List.getElem?_toArray, List.getElem?_map, h1]; rfl)
theorem constants_any (w : World) : Calls Tryz.prog 140 #[] w (ConstPost w) := by
 go_enter Tryz.func140, Tryz.ntmps140
 go_wp2
 go_ret
 exact const_mk _ _ (by kernel_rfl)
theorem word_sum (b0 b1 b2 b3 : UInt8) :
  ((((b0.toNat : Int) * (16777216 : Int) + (b1.toNat : Int) * (65536 : Int)) + (b2.toNat : Int) * (256 : Int)) + (b3.toNat : Int)) = nv ((b0.toUInt32 <<< 24) ||| (b1.toUInt32 <<< 16) ||| (b2.toUInt32 <<< 8) ||| b3.toUInt32) := by
 have h0 := b0.toNat_lt
 have h1 := b1.toNat_lt
 have h2 := b2.toNat_lt
 have h3 := b3.toNat_lt
 have a1 : b0.toNat * 16777216 ||| b1.toNat * 65536 = b0.toNat * 16777216 + b1.toNat * 65536 := by
  rw [show b0.toNat * 16777216 = 2 ^ 24 * b0.toNat by omega]
  exact (Nat.two_pow_add_eq_or_of_lt (by omega) _).symm
 have a2 : (b0.toNat * 16777216 + b1.toNat * 65536) ||| b2.toNat * 256 = b0.toNat * 16777216 + b1.toNat * 65536 + b2.toNat * 256 := by
  rw [show b0.toNat * 16777216 + b1.toNat * 65536 = 2 ^ 16 * (b0.toNat * 256 + b1.toNat) by omega]
  exact (Nat.two_pow_add_eq_or_of_lt (by omega) _).symm
 have a3 : (b0.toNat * 16777216 + b1.toNat * 65536 + b2.toNat * 256) ||| b3.toNat = b0.toNat * 16777216 + b1.toNat * 65536 + b2.toNat * 256 + b3.toNat := by
  rw [show b0.toNat * 16777216 + b1.toNat * 65536 + b2.toNat * 256 = 2 ^ 8 * (b0.toNat * 65536 + b1.toNat * 256 + b2.toNat) by omega]
  exact (Nat.two_pow_add_eq_or_of_lt (by omega) _).symm
 have s0 : (b0.toUInt32 <<< 24).toNat = b0.toNat * 16777216 := by
  rw [UInt32.toNat_shiftLeft, UInt8.toNat_toUInt32, Nat.shiftLeft_eq]
  show b0.toNat * 2 ^ 24 % 2 ^ 32 = _
  omega
 have s1 : (b1.toUInt32 <<< 16).toNat = b1.toNat * 65536 := by
  rw [UInt32.toNat_shiftLeft, UInt8.toNat_toUInt32, Nat.shiftLeft_eq]
  show b1.toNat * 2 ^ 16 % 2 ^ 32 = _
  omega
 have s2 : (b2.toUInt32 <<< 8).toNat = b2.toNat * 256 := by
  rw [UInt32.toNat_shiftLeft, UInt8.toNat_toUInt32, Nat.shiftLeft_eq]
  show b2.toNat * 2 ^ 8 % 2 ^ 32 = _
  omega
 unfold nv
 rw [UInt32.toNat_or, UInt32.toNat_or, UInt32.toNat_or, s0, s1, s2, UInt8.toNat_toUInt32, a1, a2, a3]
 omega
def swl (l : List UInt8) (k : Nat) : List Value := (List.range k).map fun j => uv (sw l j)
def SchedPost (l : List UInt8) (w : World) (e : Ending) (w' : World) : Prop :=
 ∃ A c, e = .returned (.slice A 64 c) ∧ Rd w' w'.heap.size A (swl l 64) ∧ Below w.heap.size w w'
theorem swl_succ (l : List UInt8) (k : Nat) : swl l (k + 1) = swl l k ++ [uv (sw l k)] := by
 unfold swl; rw [List.range_succ, List.map_append]; rfl
theorem grow_drewN {w w' : World} (h : ∃ m, w' = w.drewN m) : Below w.heap.size w w' := by
 obtain ⟨m, rfl⟩ := h
 have h := Below.refl w.heap.size w
 exact ⟨h.os, h.tape, h.output, h.size, h.block⟩
theorem swl_get (l : List UInt8) (k j : Nat) (h : j < k) : (swl l k)[j]? = some (.int .u32 (nv (sw l j))) := by
 unfold swl; simp [h]; rfl
attribute [local go_sem] nv_xor nv_add
theorem schedule_any (A : Option Addr) (c : Nat) (l : List UInt8) (hl : l.length = 64) (w : World) (hr : Rd w w.heap.size A (l.map bv)) (hc : 64 ≤ c) (hm : c ≤ maxLen) :
  Calls Tryz.prog 139 #[.slice A 64 c] w (SchedPost l w) := by
 rw [maxLen_eq] at hm
 have hl0 : l.map bv ≠ [] := fun h => by
  have := congrArg List.length h
  simp [hl] at this
 obtain ⟨b, off, rfl, hb, hcell⟩ := hr hl0
 have HC := Lib.hid hcell
 clear hcell hr hl0
 go_enter Tryz.func139, Tryz.ntmps139
 go_wp2
 go_loopw [3, 4] (fun v i wr => ∃ (k j : Nat) (A' : Option Addr) (c' : Nat), k = 4 * j ∧ j ≤ 16 ∧ i = .int .i64 k ∧ v = .slice A' j c' ∧ j ≤ c' ∧ c' ≤ 9223372036854775807 ∧ wr.ownsRow w.heap.size 144 1 (.slice A' j c') j (swl l j) ∧ Below w.heap.size w wr) (fun _ i _ => 64 - (intOf i).toNat)
 case atStart => exact ⟨0, 0, none, 0, rfl, by omega, rfl, rfl, Nat.le_refl _, by omega, own_nil _ _ _ _, Below.refl _ _⟩
 case round =>
  obtain ⟨k, j, A', c', hk, hj, rfl, rfl, hcap1, hcap2, hown, hbel⟩ := hrel
  have HO := Lib.hid hown
  have HB := Lib.hid hbel
  have HK := Lib.hid hk
  by_cases h64 : k < 64
  ·
   obtain ⟨b0, h0⟩ : ∃ x, l[k]? = some x := ⟨_, List.getElem?_eq_getElem (by omega)⟩
   obtain ⟨b1, h1⟩ : ∃ x, l[k + 1]? = some x := ⟨_, List.getElem?_eq_getElem (by omega)⟩
   obtain ⟨b2, h2⟩ : ∃ x, l[k + 2]? = some x := ⟨_, List.getElem?_eq_getElem (by omega)⟩
   obtain ⟨b3, h3⟩ : ∃ x, l[k + 3]? = some x := ⟨_, List.getElem?_eq_getElem (by omega)⟩
   have rdc : ∀ j x, l[j]? = some x → wr.cell? ⟨b, off + j, none⟩ = some (.int .u8 (x.toNat : Int)) := fun j x hx => by
    rw [hbel.cell (p := ⟨b, off + j, none⟩) (by show b < _; omega)]
    exact HC.out j _ (by rw [List.getElem?_map, hx]; rfl)
   have c0 := rdc _ _ h0
   have c1 := rdc _ _ h1
   have c2 := rdc _ _ h2
   have c3 := rdc _ _ h3
   have t0 := b0.toNat_lt
   have t1 := b1.toNat_lt
   have t2 := b2.toNat_lt
   have t3 := b3.toNat_lt
   have hw := word_bits l b0 b1 b2 b3 j (by omega) (by rw [← hk]; exact h0) (by rw [← hk]; exact h1) (by rw [← hk]; exact h2) (by rw [← hk]; exact h3)
   have i1 : (k : Int) + 1 < 64 := by omega
   have i2 : (k : Int) + 2 < 64 := by omega
   have i3 : (k : Int) + 3 < 64 := by omega
   have p1 : (0 : Int) ≤ (k : Int) + 1 := by omega
   have p2 : (0 : Int) ≤ (k : Int) + 2 := by omega
   have p3 : (0 : Int) ≤ (k : Int) + 3 := by omega
   have n1 : ((k : Int) + 1).toNat = k + 1 := by omega
   have n2 : ((k : Int) + 2).toNat = k + 2 := by omega
   have n3 : ((k : Int) + 3).toNat = k + 3 := by omega
   have hs := word_sum b0 b1 b2 b3
   rw [hw] at hs
   have HS := Lib.hid hs
   have hlow : ∀ (p : Addr) (W : World), p.block < w.heap.size → Below wr.heap.size wr W → W.cell? p = wr.cell? p := fun p W hp hW => hW.cell (Nat.lt_of_lt_of_le hp HB.out.size)
   have hc0 := fun (W : World) (hW : Below wr.heap.size wr W) => (hlow ⟨b, off + k, none⟩ W hb hW).trans c0
   have hc1 := fun (W : World) (hW : Below wr.heap.size wr W) => (hlow ⟨b, off + (k + 1), none⟩ W hb hW).trans c1
   have hc2 := fun (W : World) (hW : Below wr.heap.size wr W) => (hlow ⟨b, off + (k + 2), none⟩ W hb hW).trans c2
   have hc3 := fun (W : World) (hW : Below wr.heap.size wr W) => (hlow ⟨b, off + (k + 3), none⟩ W hb hW).trans c3
   clear hw hs h0 h1 h2 h3 rdc hown hbel hk c0 c1 c2 c3 hlow
   go_wp2_with fail
   refine Free.wp_free_l 31 (fun W => Below wr.heap.size wr W) [Free.kc (.slice A' j c'), Free.kc (.slice (some ⟨b, off, none⟩) 64 c), Free.kc (.int .i64 (k : Int)), Free.kc (.pointer (some ⟨b, off + k, none⟩)), Free.kc (.int .u8 (b0.toNat : Int)), Free.kc (.int .u32 (b0.toNat : Int)), Free.kc (.int .u32 ((b0.toNat : Int) * 16777216)), Free.kc (.slice (some ⟨b, off, none⟩) 64 c), Free.kc (.int .i64 (k : Int)), Free.kc (.int .i64 ((k : Int) + 1)), Free.kc (.pointer (some ⟨b, off + (k + 1), none⟩)), Free.kc (.int .u8 (b1.toNat : Int)), Free.kc (.int .u32 (b1.toNat : Int)), Free.kc (.int .u32 ((b1.toNat : Int) * 65536)), Free.kc (.int .u32 ((b0.toNat : Int) * 16777216 + (b1.toNat : Int) * 65536)), Free.kc (.slice (some ⟨b, off, none⟩) 64 c), Free.kc (.int .i64 (k : Int)), Free.kc (.int .i64 ((k : Int) + 2)), Free.kc (.pointer (some ⟨b, off + (k + 2), none⟩)), Free.kc (.int .u8 (b2.toNat : Int)), Free.kc (.int .u32 (b2.toNat : Int)), Free.kc (.int .u32 ((b2.toNat : Int) * 256)), Free.kc (.int .u32 ((b0.toNat : Int) * 16777216 + (b1.toNat : Int) * 65536 + (b2.toNat : Int) * 256)), Free.kc (.slice (some ⟨b, off, none⟩) 64 c), Free.kc (.int .i64 (k : Int)), Free.kc (.int .i64 ((k : Int) + 3)), Free.kc (.pointer (some ⟨b, off + (k + 3), none⟩)), Free.kc (.int .u8 (b3.toNat : Int)), Free.kc (.int .u32 (b3.toNat : Int)), Free.kc (.int .u32 ((b0.toNat : Int) * 16777216 + (b1.toNat : Int) * 65536 + (b2.toNat : Int) * 256 + (b3.toNat : Int))), Free.kr (1) ([.int .u32 ((b0.toNat : Int) * 16777216 + (b1.toNat : Int) * 65536 + (b2.toNat : Int) * 256 + (b3.toNat : Int))])] (by kernel_rfl) (by kernel_rfl) (by decide) (Below.refl _ _).drew (fun w w' h g => bt h g) ?_ ?_
   ·
    iterate 31 refine Free.forall_succ ?_ ?_
    all_goals first | exact Free.forall_zero | (refine Free.op fun vals wq hC hd => ?_) | skip
    · exact Free.dm
    · exact Free.dm
    · exact Free.dm
    · exact Free.d_indexAddr rfl (Free.tr 1 hd) (Free.tr 2 hd) (run_idx 28 Tryz.underlying28 (by kernel_rfl) _ _ _ _ _ _ (by omega) (by omega)) rfl
    · exact Free.d_load rfl (Free.tr 3 hd) (by have hcc := hc0 wq hC; go_simp) rfl
    · exact Free.d_conv rfl (Free.tr 4 hd) (by first | (go_simp; done) | (go_simp; rw [IntWalk.u32_in _ (by omega)]) | (go_simp; rw [IntWalk.i64_in _ (by omega)]) | (go_simp; rw [IntWalk.u8_in _ (by omega)]) | (go_simp; rw [IntKind.wrap_u32]; exact nv_add _ _)) (Below.refl _ _) rfl
    · exact Free.d_bin rfl (Free.tr 5 hd) (show _ = (.int .u32 16777216 : Value) from rfl) (by go_simp) (by first | (go_simp; done) | (go_simp; rw [IntWalk.u32_in _ (by omega)]) | (go_simp; rw [IntWalk.i64_in _ (by omega)]) | (go_simp; rw [IntWalk.u8_in _ (by omega)]) | (go_simp; rw [IntKind.wrap_u32]; exact nv_add _ _)) rfl
    · exact Free.dm
    · exact Free.dm
    · exact Free.d_bin rfl (Free.tr 8 hd) (show _ = (.int .i64 1 : Value) from rfl) (by go_simp) (by first | (go_simp; done) | (go_simp; rw [IntWalk.u32_in _ (by omega)]) | (go_simp; rw [IntWalk.i64_in _ (by omega)]) | (go_simp; rw [IntWalk.u8_in _ (by omega)]) | (go_simp; rw [IntKind.wrap_u32]; exact nv_add _ _)) rfl
    · exact Free.d_indexAddr rfl (Free.tr 7 hd) (Free.tr 9 hd) (run_idx 28 Tryz.underlying28 (by kernel_rfl) _ _ _ _ _ _ (by omega) (by omega)) rfl
    · exact Free.d_load rfl (Free.tr 10 hd) (by have hcc := hc1 wq hC; go_simp) rfl
    · exact Free.d_conv rfl (Free.tr 11 hd) (by first | (go_simp; done) | (go_simp; rw [IntWalk.u32_in _ (by omega)]) | (go_simp; rw [IntWalk.i64_in _ (by omega)]) | (go_simp; rw [IntWalk.u8_in _ (by omega)]) | (go_simp; rw [IntKind.wrap_u32]; exact nv_add _ _)) (Below.refl _ _) rfl
    · exact Free.d_bin rfl (Free.tr 12 hd) (show _ = (.int .u32 65536 : Value) from rfl) (by go_simp) (by first | (go_simp; done) | (go_simp; rw [IntWalk.u32_in _ (by omega)]) | (go_simp; rw [IntWalk.i64_in _ (by omega)]) | (go_simp; rw [IntWalk.u8_in _ (by omega)]) | (go_simp; rw [IntKind.wrap_u32]; exact nv_add _ _)) rfl
    · exact Free.d_bin rfl (Free.tr 6 hd) (Free.tr 13 hd) (by go_simp) (by first | (go_simp; done) | (go_simp; rw [IntWalk.u32_in _ (by omega)]) | (go_simp; rw [IntWalk.i64_in _ (by omega)]) | (go_simp; rw [IntWalk.u8_in _ (by omega)]) | (go_simp; rw [IntKind.wrap_u32]; exact nv_add _ _)) rfl
    · exact Free.dm
    · exact Free.dm
    · exact Free.d_bin rfl (Free.tr 16 hd) (show _ = (.int .i64 2 : Value) from rfl) (by go_simp) (by first | (go_simp; done) | (go_simp; rw [IntWalk.u32_in _ (by omega)]) | (go_simp; rw [IntWalk.i64_in _ (by omega)]) | (go_simp; rw [IntWalk.u8_in _ (by omega)]) | (go_simp; rw [IntKind.wrap_u32]; exact nv_add _ _)) rfl
    · exact Free.d_indexAddr rfl (Free.tr 15 hd) (Free.tr 17 hd) (run_idx 28 Tryz.underlying28 (by kernel_rfl) _ _ _ _ _ _ (by omega) (by omega)) rfl
    · exact Free.d_load rfl (Free.tr 18 hd) (by have hcc := hc2 wq hC; go_simp) rfl
    · exact Free.d_conv rfl (Free.tr 19 hd) (by first | (go_simp; done) | (go_simp; rw [IntWalk.u32_in _ (by omega)]) | (go_simp; rw [IntWalk.i64_in _ (by omega)]) | (go_simp; rw [IntWalk.u8_in _ (by omega)]) | (go_simp; rw [IntKind.wrap_u32]; exact nv_add _ _)) (Below.refl _ _) rfl
    · exact Free.d_bin rfl (Free.tr 20 hd) (show _ = (.int .u32 256 : Value) from rfl) (by go_simp) (by first | (go_simp; done) | (go_simp; rw [IntWalk.u32_in _ (by omega)]) | (go_simp; rw [IntWalk.i64_in _ (by omega)]) | (go_simp; rw [IntWalk.u8_in _ (by omega)]) | (go_simp; rw [IntKind.wrap_u32]; exact nv_add _ _)) rfl
    · exact Free.d_bin rfl (Free.tr 14 hd) (Free.tr 21 hd) (by go_simp) (by first | (go_simp; done) | (go_simp; rw [IntWalk.u32_in _ (by omega)]) | (go_simp; rw [IntWalk.i64_in _ (by omega)]) | (go_simp; rw [IntWalk.u8_in _ (by omega)]) | (go_simp; rw [IntKind.wrap_u32]; exact nv_add _ _)) rfl
    · exact Free.dm
    · exact Free.dm
    · exact Free.d_bin rfl (Free.tr 24 hd) (show _ = (.int .i64 3 : Value) from rfl) (by go_simp) (by first | (go_simp; done) | (go_simp; rw [IntWalk.u32_in _ (by omega)]) | (go_simp; rw [IntWalk.i64_in _ (by omega)]) | (go_simp; rw [IntWalk.u8_in _ (by omega)]) | (go_simp; rw [IntKind.wrap_u32]; exact nv_add _ _)) rfl
    · exact Free.d_indexAddr rfl (Free.tr 23 hd) (Free.tr 25 hd) (run_idx 28 Tryz.underlying28 (by kernel_rfl) _ _ _ _ _ _ (by omega) (by omega)) rfl
    · exact Free.d_load rfl (Free.tr 26 hd) (by have hcc := hc3 wq hC; go_simp) rfl
    · exact Free.d_conv rfl (Free.tr 27 hd) (by first | (go_simp; done) | (go_simp; rw [IntWalk.u32_in _ (by omega)]) | (go_simp; rw [IntWalk.i64_in _ (by omega)]) | (go_simp; rw [IntWalk.u8_in _ (by omega)]) | (go_simp; rw [IntKind.wrap_u32]; exact nv_add _ _)) (Below.refl _ _) rfl
    · exact Free.d_bin rfl (Free.tr 22 hd) (Free.tr 28 hd) (by go_simp) (by first | (go_simp; done) | (go_simp; rw [IntWalk.u32_in _ (by omega)]) | (go_simp; rw [IntWalk.i64_in _ (by omega)]) | (go_simp; rw [IntWalk.u8_in _ (by omega)]) | (go_simp; rw [IntKind.wrap_u32]; exact nv_add _ _)) rfl
    · exact Free.d_build (w' := wq.alloc (.cells [.int .u32 ((b0.toNat : Int) * 16777216 + (b1.toNat : Int) * 65536 + (b2.toNat : Int) * 256 + (b3.toNat : Int))].toArray 144)) rfl (Free.parts1 (Free.tr 29 hd)) (by go_simp) ((Below.refl _ _).alloc (Nat.le_refl _) _) ⟨_, _, rfl, (rd_new wq [_] _ _).more (by unfold World.alloc; simp), Nat.le_refl _, by rw [maxLen_eq]; omega⟩
   ·
    intro vals wq hC hd
    refine Free.go hd ?_
    rintro _ rfl _ rfl _ rfl _ rfl _ rfl _ rfl _ rfl _ rfl _ rfl _ rfl _ rfl _ rfl _ rfl _ rfl _ rfl _ rfl _ rfl _ rfl _ rfl _ rfl _ rfl _ rfl _ rfl _ rfl _ rfl _ rfl _ rfl _ rfl _ rfl _ rfl _ ⟨A30, k30, rfl, rd30, le30, mx30⟩
    simp only [Free.All, Free.fl, Act.put, Free.sa, Free.s0, Free.s1]
    clear hd
    have HOK := Lib.hid (own_keep HO.out hC (Nat.le_refl _))
    have HBQ := Lib.hid (HB.out.trans (hC.mono HB.out.size))
    refine wl_app rfl (.tmp 12) (.tmp 42) 161 rfl w.heap.size 144 1 4 wordsT _ j _ rfl HOK.out wq.heap.size A30 1 k30 _ rfl rd30 rfl (by simp [Value.oneCell']) (by rw [maxLen_eq]; omega) (by omega) HBQ.out.size ?_
    intro A3 c3 w3 hown3 hg3 hat3 hb3 hd3 hd3'
    have HO3 := Lib.hid hown3
    have HB3 := Lib.hid (HBQ.out.trans hb3)
    have HC3 := Lib.hid (And.intro hd3 hd3')
    clear hown3 hg3 hat3 hb3 hd3 hd3' hc0 hc1 hc2 hc3
    go_wp2
    go_roundw
    case rel => exact ⟨k + 4, j + 1, A3, c3, by have := HK.out; omega, by have := HK.out; omega, by go_num, rfl, HC3.out.1, by have := HC3.out.2; rw [maxLen_eq] at this; exact this, by rw [swl_succ]; have h := HO3.out; rw [HS.out] at h; exact h, HB3.out⟩
    case measure => simp [intOf]; omega
  ·
   have hj16 : j = 16 := by omega
   have HO16 := Lib.hid (show wr.ownsRow w.heap.size 144 1 (.slice A' 16 c') 16 (swl l 16) from hj16 ▸ hown)
   have hcap16 : 16 ≤ c' := by omega
   rw [hj16]
   clear hown hbel hk hcap1 HO
   go_wp2
   go_loopw [3, 5] (fun v i wr => ∃ (k : Nat) (A' : Option Addr) (c' : Nat), 16 ≤ k ∧ k ≤ 64 ∧ i = .int .i64 k ∧ v = .slice A' k c' ∧ k ≤ c' ∧ c' ≤ 9223372036854775807 ∧ wr.ownsRow w.heap.size 144 1 (.slice A' k c') k (swl l k) ∧ Below w.heap.size w wr) (fun _ i _ => 64 - (intOf i).toNat)
   case atStart => exact ⟨16, A', c', by omega, by omega, rfl, rfl, hcap16, hcap2, HO16.out, HB.out⟩
   clear HO16 hcap16 hcap2 HK hj16 HB hj h64
   case round =>
    obtain ⟨k, A', c', hk16, hk64, rfl, rfl, hcap1, hcap2, hown, hbel⟩ := hrel
    have HO := Lib.hid hown
    have HB := Lib.hid hbel
    have hrd := Rd.of_own hown
    by_cases hk : k < 64
    ·
     obtain ⟨g, o, rfl, hg, hcl⟩ := hrd (fun h => by
      have h2 := congrArg List.length h
      unfold swl at h2
      simp at h2; omega)
     obtain ⟨x0, e0⟩ : ∃ x, sw l (k - 16) = x := ⟨_, rfl⟩
     obtain ⟨x1, e1⟩ : ∃ x, sw l (k - 15) = x := ⟨_, rfl⟩
     obtain ⟨x2, e2⟩ : ∃ x, sw l (k - 7) = x := ⟨_, rfl⟩
     obtain ⟨x3, e3⟩ : ∃ x, sw l (k - 2) = x := ⟨_, rfl⟩
     have c0 := hcl (k - 16) _ (swl_get l k _ (by omega))
     have c1 := hcl (k - 15) _ (swl_get l k _ (by omega))
     have c2 := hcl (k - 7) _ (swl_get l k _ (by omega))
     have c3 := hcl (k - 2) _ (swl_get l k _ (by omega))
     rw [e0] at c0
     rw [e1] at c1
     rw [e2] at c2
     rw [e3] at c3
     have hs := sw_step l k hk16 hk
     rw [e0, e1, e2, e3] at hs
     have HS := Lib.hid hs
     have HG := Lib.hid hg
     have p16 : (0 : Int) ≤ (k : Int) - 16 := by omega
     have p15 : (0 : Int) ≤ (k : Int) - 15 := by omega
     have p7 : (0 : Int) ≤ (k : Int) - 7 := by omega
     have p2 : (0 : Int) ≤ (k : Int) - 2 := by omega
     have q16 : (k : Int) - 16 < (k : Int) := by omega
     have q15 : (k : Int) - 15 < (k : Int) := by omega
     have q7 : (k : Int) - 7 < (k : Int) := by omega
     have q2 : (k : Int) - 2 < (k : Int) := by omega
     have n16 : ((k : Int) - 16).toNat = k - 16 := by omega
     have n15 : ((k : Int) - 15).toNat = k - 15 := by omega
     have n7 : ((k : Int) - 7).toNat = k - 7 := by omega
     have n2 : ((k : Int) - 2).toNat = k - 2 := by omega
     clear hs e0 e1 e2 e3 hcl hg hrd hown hbel
     have hHB := HB.out.size
     have hlow : ∀ (j : Nat) (v : Value), wr.cell? ⟨g, j, none⟩ = some v → ∀ W, Below wr.heap.size wr W → W.cell? ⟨g, j, none⟩ = some v := fun j v hv W hW => (hW.cell (p := ⟨g, j, none⟩) HG.out).trans hv
     have hq0 := hlow _ _ c0
     have hq1 := hlow _ _ c1
     have hq2 := hlow _ _ c2
     have hq3 := hlow _ _ c3
     have t1 := nv_shr3 x1
     have t3 := nv_shr10 x3
     clear hlow c0 c1 c2 c3
     go_wp2_with fail
     refine Free.wp_free_l 21 (fun W => Below wr.heap.size wr W) [Free.kc (.slice (some ⟨g, o, none⟩) k c'), Free.kc (.int .i64 (k : Int)), Free.kc (.int .i64 ((k : Int) - 15)), Free.kc (.pointer (some ⟨g, o + (k - 15), none⟩)), Free.kc (.int .u32 (nv x1)), Free.kc (.int .u32 (nv (Sha.rotr x1 7))), Free.kc (.slice (some ⟨g, o, none⟩) k c'), Free.kc (.int .i64 (k : Int)), Free.kc (.int .i64 ((k : Int) - 15)), Free.kc (.pointer (some ⟨g, o + (k - 15), none⟩)), Free.kc (.int .u32 (nv x1)), Free.kc (.int .u32 (nv (Sha.rotr x1 18))), Free.kc (.int .u32 (nv (Sha.rotr x1 7 ^^^ Sha.rotr x1 18))), Free.kc (.slice (some ⟨g, o, none⟩) k c'), Free.kc (.int .i64 (k : Int)), Free.kc (.int .i64 ((k : Int) - 15)), Free.kc (.pointer (some ⟨g, o + (k - 15), none⟩)), Free.kc (.int .u32 (nv x1)), Free.kc (.int .u32 (nv (x1 >>> 3))), Free.kc (.int .u32 (nv (Sha.rotr x1 7 ^^^ Sha.rotr x1 18 ^^^ (x1 >>> 3)))), Free.kc (.int .u32 (nv (Sha.rotr x1 7 ^^^ Sha.rotr x1 18 ^^^ (x1 >>> 3))))] (by kernel_rfl) (by kernel_rfl) (by decide) (Below.refl _ _).drew (fun w w' h g => bt h g) ?_ ?_
     ·
      iterate 21 refine Free.forall_succ ?_ ?_
      all_goals first | exact Free.forall_zero | (refine Free.op fun vals wq hC hd => ?_) | skip
      · exact Free.dm
      · exact Free.dm
      · exact Free.d_bin rfl (Free.tr 1 hd) (show _ = (.int .i64 15 : Value) from rfl) (by go_simp) (by first | (go_simp; done) | (go_simp; rw [IntWalk.u32_in _ (by omega)]) | (go_simp; rw [IntWalk.i64_in _ (by omega)]) | (go_simp; rw [IntWalk.u8_in _ (by omega)]) | (go_simp; rw [IntKind.wrap_u32]; exact nv_add _ _)) rfl
      · exact Free.d_indexAddr rfl (Free.tr 0 hd) (Free.tr 2 hd) (run_idx 161 Tryz.underlying161 (by kernel_rfl) _ _ _ _ _ _ (by omega) (by omega)) rfl
      · exact Free.d_load rfl (Free.tr 3 hd) (by have hcc := hq1 wq hC; go_simp) rfl
      · exact Free.d_call Tryz.func141 (by kernel_rfl) (by kernel_rfl) rfl rfl (Free.arg2 (Free.tr 4 hd) (show _ = (.int .i64 7 : Value) from rfl)) ((right_7 x1 wq).mono fun e w2 h => ⟨_, h.1, rfl, grow_drewN h.2⟩)
      · exact Free.dm
      · exact Free.dm
      · exact Free.d_bin rfl (Free.tr 7 hd) (show _ = (.int .i64 15 : Value) from rfl) (by go_simp) (by first | (go_simp; done) | (go_simp; rw [IntWalk.u32_in _ (by omega)]) | (go_simp; rw [IntWalk.i64_in _ (by omega)]) | (go_simp; rw [IntWalk.u8_in _ (by omega)]) | (go_simp; rw [IntKind.wrap_u32]; exact nv_add _ _)) rfl
      · exact Free.d_indexAddr rfl (Free.tr 6 hd) (Free.tr 8 hd) (run_idx 161 Tryz.underlying161 (by kernel_rfl) _ _ _ _ _ _ (by omega) (by omega)) rfl
      · exact Free.d_load rfl (Free.tr 9 hd) (by have hcc := hq1 wq hC; go_simp) rfl
      · exact Free.d_call Tryz.func141 (by kernel_rfl) (by kernel_rfl) rfl rfl (Free.arg2 (Free.tr 10 hd) (show _ = (.int .i64 18 : Value) from rfl)) ((right_18 x1 wq).mono fun e w2 h => ⟨_, h.1, rfl, grow_drewN h.2⟩)
      · exact Free.d_bin rfl (Free.tr 5 hd) (Free.tr 11 hd) (by go_simp) (by first | (go_simp; done) | (go_simp; rw [IntWalk.u32_in _ (by omega)]) | (go_simp; rw [IntWalk.i64_in _ (by omega)]) | (go_simp; rw [IntWalk.u8_in _ (by omega)]) | (go_simp; rw [IntKind.wrap_u32]; exact nv_add _ _)) rfl
      · exact Free.dm
      · exact Free.dm
      · exact Free.d_bin rfl (Free.tr 14 hd) (show _ = (.int .i64 15 : Value) from rfl) (by go_simp) (by first | (go_simp; done) | (go_simp; rw [IntWalk.u32_in _ (by omega)]) | (go_simp; rw [IntWalk.i64_in _ (by omega)]) | (go_simp; rw [IntWalk.u8_in _ (by omega)]) | (go_simp; rw [IntKind.wrap_u32]; exact nv_add _ _)) rfl
      · exact Free.d_indexAddr rfl (Free.tr 13 hd) (Free.tr 15 hd) (run_idx 161 Tryz.underlying161 (by kernel_rfl) _ _ _ _ _ _ (by omega) (by omega)) rfl
      · exact Free.d_load rfl (Free.tr 16 hd) (by have hcc := hq1 wq hC; go_simp) rfl
      · exact Free.d_bin rfl (Free.tr 17 hd) (show _ = (.int .u64 3 : Value) from rfl) (by go_simp) (by first | (go_simp; done) | (go_simp; rw [IntWalk.u32_in _ (by omega)]) | (go_simp; rw [IntWalk.i64_in _ (by omega)]) | (go_simp; rw [IntWalk.u8_in _ (by omega)]) | (go_simp; rw [IntKind.wrap_u32]; exact nv_add _ _)) rfl
      · exact Free.d_bin rfl (Free.tr 12 hd) (Free.tr 18 hd) (by go_simp) (by first | (go_simp; done) | (go_simp; rw [IntWalk.u32_in _ (by omega)]) | (go_simp; rw [IntWalk.i64_in _ (by omega)]) | (go_simp; rw [IntWalk.u8_in _ (by omega)]) | (go_simp; rw [IntKind.wrap_u32]; exact nv_add _ _)) rfl
      · exact Free.d_assign rfl (Free.tr 19 hd) rfl
     ·
      intro vals wq hC hd
      refine Free.go hd ?_
      rintro _ rfl _ rfl _ rfl _ rfl _ rfl _ rfl _ rfl _ rfl _ rfl _ rfl _ rfl _ rfl _ rfl _ rfl _ rfl _ rfl _ rfl _ rfl _ rfl _ rfl _ rfl
      simp only [Free.All, Free.fl, Act.put, Free.sa, Free.s0, Free.s1]
      refine wpList_nil ?_
      clear hd
      have hq3' := fun (W : World) (hW : Below wq.heap.size wq W) => hq3 W (bt hC hW)
      have HC1 := Lib.hid hC
      clear hC hq1 hq3
      go_wp2_with fail
      refine Free.wp_free_l 21 (fun W => Below wq.heap.size wq W) [Free.kc (.slice (some ⟨g, o, none⟩) k c'), Free.kc (.int .i64 (k : Int)), Free.kc (.int .i64 ((k : Int) - 2)), Free.kc (.pointer (some ⟨g, o + (k - 2), none⟩)), Free.kc (.int .u32 (nv x3)), Free.kc (.int .u32 (nv (Sha.rotr x3 17))), Free.kc (.slice (some ⟨g, o, none⟩) k c'), Free.kc (.int .i64 (k : Int)), Free.kc (.int .i64 ((k : Int) - 2)), Free.kc (.pointer (some ⟨g, o + (k - 2), none⟩)), Free.kc (.int .u32 (nv x3)), Free.kc (.int .u32 (nv (Sha.rotr x3 19))), Free.kc (.int .u32 (nv (Sha.rotr x3 17 ^^^ Sha.rotr x3 19))), Free.kc (.slice (some ⟨g, o, none⟩) k c'), Free.kc (.int .i64 (k : Int)), Free.kc (.int .i64 ((k : Int) - 2)), Free.kc (.pointer (some ⟨g, o + (k - 2), none⟩)), Free.kc (.int .u32 (nv x3)), Free.kc (.int .u32 (nv (x3 >>> 10))), Free.kc (.int .u32 (nv (Sha.rotr x3 17 ^^^ Sha.rotr x3 19 ^^^ (x3 >>> 10)))), Free.kc (.int .u32 (nv (Sha.rotr x3 17 ^^^ Sha.rotr x3 19 ^^^ (x3 >>> 10))))] (by kernel_rfl) (by kernel_rfl) (by decide) (Below.refl _ _).drew (fun w w' h g => bt h g) ?_ ?_
      ·
       iterate 21 refine Free.forall_succ ?_ ?_
       all_goals first | exact Free.forall_zero | (refine Free.op fun vals wp hC2 hd => ?_) | skip
       · exact Free.dm
       · exact Free.dm
       · exact Free.d_bin rfl (Free.tr 1 hd) (show _ = (.int .i64 2 : Value) from rfl) (by go_simp) (by first | (go_simp; done) | (go_simp; rw [IntWalk.u32_in _ (by omega)]) | (go_simp; rw [IntWalk.i64_in _ (by omega)]) | (go_simp; rw [IntWalk.u8_in _ (by omega)]) | (go_simp; rw [IntKind.wrap_u32]; exact nv_add _ _)) rfl
       · exact Free.d_indexAddr rfl (Free.tr 0 hd) (Free.tr 2 hd) (run_idx 161 Tryz.underlying161 (by kernel_rfl) _ _ _ _ _ _ (by omega) (by omega)) rfl
       · exact Free.d_load rfl (Free.tr 3 hd) (by have hcc := hq3' wp hC2; go_simp) rfl
       · exact Free.d_call Tryz.func141 (by kernel_rfl) (by kernel_rfl) rfl rfl (Free.arg2 (Free.tr 4 hd) (show _ = (.int .i64 17 : Value) from rfl)) ((right_17 x3 wp).mono fun e w2 h => ⟨_, h.1, rfl, grow_drewN h.2⟩)
       · exact Free.dm
       · exact Free.dm
       · exact Free.d_bin rfl (Free.tr 7 hd) (show _ = (.int .i64 2 : Value) from rfl) (by go_simp) (by first | (go_simp; done) | (go_simp; rw [IntWalk.u32_in _ (by omega)]) | (go_simp; rw [IntWalk.i64_in _ (by omega)]) | (go_simp; rw [IntWalk.u8_in _ (by omega)]) | (go_simp; rw [IntKind.wrap_u32]; exact nv_add _ _)) rfl
       · exact Free.d_indexAddr rfl (Free.tr 6 hd) (Free.tr 8 hd) (run_idx 161 Tryz.underlying161 (by kernel_rfl) _ _ _ _ _ _ (by omega) (by omega)) rfl
       · exact Free.d_load rfl (Free.tr 9 hd) (by have hcc := hq3' wp hC2; go_simp) rfl
       · exact Free.d_call Tryz.func141 (by kernel_rfl) (by kernel_rfl) rfl rfl (Free.arg2 (Free.tr 10 hd) (show _ = (.int .i64 19 : Value) from rfl)) ((right_19 x3 wp).mono fun e w2 h => ⟨_, h.1, rfl, grow_drewN h.2⟩)
       · exact Free.d_bin rfl (Free.tr 5 hd) (Free.tr 11 hd) (by go_simp) (by first | (go_simp; done) | (go_simp; rw [IntWalk.u32_in _ (by omega)]) | (go_simp; rw [IntWalk.i64_in _ (by omega)]) | (go_simp; rw [IntWalk.u8_in _ (by omega)]) | (go_simp; rw [IntKind.wrap_u32]; exact nv_add _ _)) rfl
       · exact Free.dm
       · exact Free.dm
       · exact Free.d_bin rfl (Free.tr 14 hd) (show _ = (.int .i64 2 : Value) from rfl) (by go_simp) (by first | (go_simp; done) | (go_simp; rw [IntWalk.u32_in _ (by omega)]) | (go_simp; rw [IntWalk.i64_in _ (by omega)]) | (go_simp; rw [IntWalk.u8_in _ (by omega)]) | (go_simp; rw [IntKind.wrap_u32]; exact nv_add _ _)) rfl
       · exact Free.d_indexAddr rfl (Free.tr 13 hd) (Free.tr 15 hd) (run_idx 161 Tryz.underlying161 (by kernel_rfl) _ _ _ _ _ _ (by omega) (by omega)) rfl
       · exact Free.d_load rfl (Free.tr 16 hd) (by have hcc := hq3' wp hC2; go_simp) rfl
       · exact Free.d_bin rfl (Free.tr 17 hd) (show _ = (.int .u64 10 : Value) from rfl) (by go_simp) (by first | (go_simp; done) | (go_simp; rw [IntWalk.u32_in _ (by omega)]) | (go_simp; rw [IntWalk.i64_in _ (by omega)]) | (go_simp; rw [IntWalk.u8_in _ (by omega)]) | (go_simp; rw [IntKind.wrap_u32]; exact nv_add _ _)) rfl
       · exact Free.d_bin rfl (Free.tr 12 hd) (Free.tr 18 hd) (by go_simp) (by first | (go_simp; done) | (go_simp; rw [IntWalk.u32_in _ (by omega)]) | (go_simp; rw [IntWalk.i64_in _ (by omega)]) | (go_simp; rw [IntWalk.u8_in _ (by omega)]) | (go_simp; rw [IntKind.wrap_u32]; exact nv_add _ _)) rfl
       · exact Free.d_assign rfl (Free.tr 19 hd) rfl
      ·
       intro vals wp hC2 hd
       refine Free.go hd ?_
       rintro _ rfl _ rfl _ rfl _ rfl _ rfl _ rfl _ rfl _ rfl _ rfl _ rfl _ rfl _ rfl _ rfl _ rfl _ rfl _ rfl _ rfl _ rfl _ rfl _ rfl _ rfl
       simp only [Free.All, Free.fl, Act.put, Free.sa, Free.s0, Free.s1]
       refine wpList_nil ?_
       clear hd
       have HC2 := Lib.hid (bt HC1.out hC2)
       have hq0' := fun (W : World) (hW : Below wp.heap.size wp W) => hq0 W (bt HC2.out hW)
       have hq2' := fun (W : World) (hW : Below wp.heap.size wp W) => hq2 W (bt HC2.out hW)
       obtain ⟨y0, hy0⟩ : ∃ y, Sha.rotr x1 7 ^^^ Sha.rotr x1 18 ^^^ x1 >>> 3 = y := ⟨_, rfl⟩
       obtain ⟨y1, hy1⟩ : ∃ y, Sha.rotr x3 17 ^^^ Sha.rotr x3 19 ^^^ x3 >>> 10 = y := ⟨_, rfl⟩
       rw [hy0, hy1]
       have HY := Lib.hid (And.intro hy0 hy1)
       clear hC2 hq0 hq2 hq3' hy0 hy1 t1 t3 HC1
       go_wp2_with fail
       refine Free.wp_free_l 17 (fun W => Below wp.heap.size wp W) [Free.kc (.slice (some ⟨g, o, none⟩) k c'), Free.kc (.slice (some ⟨g, o, none⟩) k c'), Free.kc (.int .i64 (k : Int)), Free.kc (.int .i64 ((k : Int) - 16)), Free.kc (.pointer (some ⟨g, o + (k - 16), none⟩)), Free.kc (.int .u32 (nv x0)), Free.kc (.int .u32 (nv y0)), Free.kc (.int .u32 (nv (x0 + y0))), Free.kc (.slice (some ⟨g, o, none⟩) k c'), Free.kc (.int .i64 (k : Int)), Free.kc (.int .i64 ((k : Int) - 7)), Free.kc (.pointer (some ⟨g, o + (k - 7), none⟩)), Free.kc (.int .u32 (nv x2)), Free.kc (.int .u32 (nv (x0 + y0 + x2))), Free.kc (.int .u32 (nv y1)), Free.kc (.int .u32 (nv (x0 + y0 + x2 + y1))), Free.kr (1) ([.int .u32 (nv (x0 + y0 + x2 + y1))])] (by kernel_rfl) (by kernel_rfl) (by decide) (Below.refl _ _).drew (fun w w' h g => bt h g) ?_ ?_
       ·
        iterate 17 refine Free.forall_succ ?_ ?_
        all_goals first | exact Free.forall_zero | (refine Free.op fun vals wr3 hC3 hd => ?_) | skip
        · exact Free.dm
        · exact Free.dm
        · exact Free.dm
        · exact Free.d_bin rfl (Free.tr 2 hd) (show _ = (.int .i64 16 : Value) from rfl) (by go_simp) (by first | (go_simp; done) | (go_simp; rw [IntWalk.u32_in _ (by omega)]) | (go_simp; rw [IntWalk.i64_in _ (by omega)]) | (go_simp; rw [IntWalk.u8_in _ (by omega)]) | (go_simp; rw [IntKind.wrap_u32]; exact nv_add _ _)) rfl
        · exact Free.d_indexAddr rfl (Free.tr 1 hd) (Free.tr 3 hd) (run_idx 161 Tryz.underlying161 (by kernel_rfl) _ _ _ _ _ _ (by omega) (by omega)) rfl
        · exact Free.d_load rfl (Free.tr 4 hd) (by have hcc := hq0' wr3 hC3; go_simp) rfl
        · exact Free.dm
        · exact Free.d_bin rfl (Free.tr 5 hd) (Free.tr 6 hd) (by go_simp) (by first | (go_simp; done) | (go_simp; rw [IntWalk.u32_in _ (by omega)]) | (go_simp; rw [IntWalk.i64_in _ (by omega)]) | (go_simp; rw [IntWalk.u8_in _ (by omega)]) | (go_simp; rw [IntKind.wrap_u32]; exact nv_add _ _)) rfl
        · exact Free.dm
        · exact Free.dm
        · exact Free.d_bin rfl (Free.tr 9 hd) (show _ = (.int .i64 7 : Value) from rfl) (by go_simp) (by first | (go_simp; done) | (go_simp; rw [IntWalk.u32_in _ (by omega)]) | (go_simp; rw [IntWalk.i64_in _ (by omega)]) | (go_simp; rw [IntWalk.u8_in _ (by omega)]) | (go_simp; rw [IntKind.wrap_u32]; exact nv_add _ _)) rfl
        · exact Free.d_indexAddr rfl (Free.tr 8 hd) (Free.tr 10 hd) (run_idx 161 Tryz.underlying161 (by kernel_rfl) _ _ _ _ _ _ (by omega) (by omega)) rfl
        · exact Free.d_load rfl (Free.tr 11 hd) (by have hcc := hq2' wr3 hC3; go_simp) rfl
        · exact Free.d_bin rfl (Free.tr 7 hd) (Free.tr 12 hd) (by go_simp) (by first | (go_simp; done) | (go_simp; rw [IntWalk.u32_in _ (by omega)]) | (go_simp; rw [IntWalk.i64_in _ (by omega)]) | (go_simp; rw [IntWalk.u8_in _ (by omega)]) | (go_simp; rw [IntKind.wrap_u32]; exact nv_add _ _)) rfl
        · exact Free.dm
        · exact Free.d_bin rfl (Free.tr 13 hd) (Free.tr 14 hd) (by go_simp) (by first | (go_simp; done) | (go_simp; rw [IntWalk.u32_in _ (by omega)]) | (go_simp; rw [IntWalk.i64_in _ (by omega)]) | (go_simp; rw [IntWalk.u8_in _ (by omega)]) | (go_simp; rw [IntKind.wrap_u32]; exact nv_add _ _)) rfl
        · exact Free.d_build (w' := wr3.alloc (.cells [.int .u32 (nv (x0 + y0 + x2 + y1))].toArray 144)) rfl (Free.parts1 (Free.tr 15 hd)) (by go_simp) ((Below.refl _ _).alloc (Nat.le_refl _) _) ⟨_, _, rfl, (rd_new wr3 [_] _ _).more (by unfold World.alloc; simp), Nat.le_refl _, by rw [maxLen_eq]; omega⟩
       ·
        intro vals wr3 hC3 hd
        refine Free.go hd ?_
        rintro _ rfl _ rfl _ rfl _ rfl _ rfl _ rfl _ rfl _ rfl _ rfl _ rfl _ rfl _ rfl _ rfl _ rfl _ rfl _ rfl _ ⟨A16, k16, rfl, rd16, le16, mx16⟩
        simp only [Free.All, Free.fl, Act.put, Free.sa, Free.s0, Free.s1]
        clear hd
        have HB3 := Lib.hid (bt HC2.out hC3)
        have HOK := Lib.hid (own_keep HO.out HB3.out (Nat.le_refl _))
        have HBQ := Lib.hid (HB.out.trans (HB3.out.mono HB.out.size))
        refine wl_app rfl (.tmp 88) (.tmp 104) 161 rfl w.heap.size 144 1 4 wordsT _ k _ rfl HOK.out wr3.heap.size A16 1 k16 _ rfl rd16 rfl (by simp [Value.oneCell']) (by rw [maxLen_eq]; omega) (by omega) HBQ.out.size ?_
        intro A3 c3 w3 hown3 hg3 hat3 hb3 hd3 hd3'
        have HO3 := Lib.hid hown3
        have HB3 := Lib.hid (HBQ.out.trans hb3)
        have HC3 := Lib.hid (And.intro hd3 hd3')
        clear hown3 hg3 hat3 hb3 hd3 hd3' hq0' hq2'
        go_wp2
        go_roundw
        case rel => exact ⟨k + 1, A3, c3, by omega, by omega, by go_num, rfl, HC3.out.1, by have := HC3.out.2; rw [maxLen_eq] at this; exact this, by rw [swl_succ, HS.out]; have h := HO3.out; rw [← HY.out.1, ← HY.out.2] at h; exact h, HB3.out⟩
        case measure => simp [intOf]; omega
    ·
     have hk6 : k = 64 := by omega
     have HF := Lib.hid (show Rd wr wr.heap.size A' (swl l 64) from hk6 ▸ hrd)
     rw [hk6]
     clear hrd hown hbel HO hcap1
     go_wp2
     go_ret
     exact ⟨A', c', rfl, HF.out, HB.out⟩
theorem nv_compl2 (x : UInt32) : bits .xor .u32 4294967295 (nv x) = nv (~~~x) := nv_compl x
def RBlockPost (s : Sha.St) (l : List UInt8) (w : World) (e : Ending) (w' : World) : Prop :=
 ∃ A c, e = .returned (.slice A 8 c) ∧ Rd w' w'.heap.size A ((Sha.block s l).list.map uv) ∧ 8 ≤ c ∧ c ≤ maxLen ∧ Below w.heap.size w w'
theorem rblock_mk {w wr : World} {s t : Sha.St} {l : List UInt8} (cs : Array Value) (ty : TypeId) (h : Below w.heap.size w wr) (hc : cs = (t.list.map uv).toArray) (ht : Sha.block s l = t) :
  RBlockPost s l w (.returned (.slice (some ⟨wr.heap.size, 0, none⟩) 8 8)) (wr.alloc (.cells cs ty)) := by
 subst hc; subst ht
 exact ⟨_, _, rfl, (rd_new wr _ _ _).more (by unfold World.alloc; simp), by omega, by rw [maxLen_eq]; omega, h.alloc h.size _⟩
attribute [local go_sem] nv_xor nv_and nv_add nv_compl2
theorem rblock_any (s : Sha.St) (L : Option Addr) (cL : Nat) (A : Option Addr) (c : Nat) (l : List UInt8) (hl : l.length = 64) (w : World) (hL : Rd w w.heap.size L (s.list.map uv)) (hcL : 8 ≤ cL) (hr : Rd w w.heap.size A (l.map bv)) (hc : 64 ≤ c) (hm : c ≤ maxLen) :
  Calls Tryz.prog 129 #[.slice L 8 cL, .slice A 64 c] w (RBlockPost s l w) := by
 obtain ⟨b, off, rfl, hb, hcell⟩ := hL (by simp [Sha.St.list])
 have HR := Lib.hid hr
 have HC := Lib.hid (And.intro hb hcell)
 clear hr hcell hb hL
 go_enter Tryz.func129, Tryz.ntmps129
 go_wp2_with fail
 refine (schedule_any A c l hl w HR.out hc hm).mono ?_
 rintro e w1 ⟨S, cS, rfl, hrS, hb1⟩
 obtain ⟨g0, o0, rfl, hg0, hcS⟩ := hrS (fun h => by have h2 := congrArg List.length h; simp [swl] at h2)
 have HS := Lib.hid (And.intro hg0 (And.intro hcS hb1))
 clear hrS hg0 hcS hb1
 go_wp2_with fail
 refine (constants_any w1).mono ?_
 rintro e w2 ⟨G, oG, rfl, hG, hcG, hb2⟩
 have HG := Lib.hid (And.intro hG (And.intro hcG hb2))
 clear hG hcG hb2
 have HB2 := Lib.hid (HS.out.2.2.trans (HG.out.2.2.mono HS.out.2.2.size))
 have low : ∀ (j : Nat) (v : Value), (s.list.map uv)[j]? = some v → ∀ W, Below w2.heap.size w2 W → W.cell? ⟨b, off + j, none⟩ = some v := fun j v hv W hW =>
  (hW.cell (p := ⟨b, off + j, none⟩) (Nat.lt_of_lt_of_le HC.out.1 HB2.out.size)).trans ((HB2.out.cell (p := ⟨b, off + j, none⟩) HC.out.1).trans (HC.out.2 j v hv))
 have HLOW := Lib.hid low
 have a0 := low 0 _ rfl w2 (Below.refl _ _)
 have a1 := low 1 _ rfl w2 (Below.refl _ _)
 have a2 := low 2 _ rfl w2 (Below.refl _ _)
 have a3 := low 3 _ rfl w2 (Below.refl _ _)
 have a4 := low 4 _ rfl w2 (Below.refl _ _)
 have a5 := low 5 _ rfl w2 (Below.refl _ _)
 have a6 := low 6 _ rfl w2 (Below.refl _ _)
 have a7 := low 7 _ rfl w2 (Below.refl _ _)
 simp only [uv, Nat.add_zero] at a0 a1 a2 a3 a4 a5 a6 a7
 clear low
 go_wp2_with fail
 go_quiet (fail)
 go_wp2_with fail
 generalize hwd : World.drewN w2 _ = wd
 have HWD := Lib.hid (show Below w2.heap.size w2 wd from hwd ▸ grow_drewN ⟨_, rfl⟩)
 clear hwd a0 a1 a2 a3 a4 a5 a6 a7
 go_loopw [7, 8, 9, 10, 11, 12, 13, 14, 15] (fun v0 v1 v2 v3 v4 v5 v6 v7 i wr => ∃ (k : Nat) (r : Sha.St), k ≤ 64 ∧ i = .int .i64 k ∧ r = rs s l k ∧ v0 = .int .u32 (nv r.a) ∧ v1 = .int .u32 (nv r.b) ∧ v2 = .int .u32 (nv r.c) ∧ v3 = .int .u32 (nv r.d) ∧ v4 = .int .u32 (nv r.e) ∧ v5 = .int .u32 (nv r.f) ∧ v6 = .int .u32 (nv r.g) ∧ v7 = .int .u32 (nv r.h) ∧ Below w2.heap.size w2 wr) (fun _ _ _ _ _ _ _ _ i _ => 64 - (intOf i).toNat)
 case atStart => exact ⟨0, s, by omega, rfl, (rs_zero s l).symm, rfl, rfl, rfl, rfl, rfl, rfl, rfl, rfl, HWD.out⟩
 clear HWD
 case round =>
  obtain ⟨k, ⟨a, b', c', d, e, f, g, h'⟩, hk64, rfl, hrs, rfl, rfl, rfl, rfl, rfl, rfl, rfl, rfl, hbel⟩ := hrel
  have HB := Lib.hid hbel
  have HRS := Lib.hid hrs
  by_cases hk : k < 64
  ·
   obtain ⟨x, ex⟩ : ∃ x, sw l k = x := ⟨_, rfl⟩
   obtain ⟨y, ey⟩ : ∃ y, cst k = y := ⟨_, rfl⟩
   have hqs : ∀ W, Below wr.heap.size wr W → W.cell? ⟨g0, o0 + k, none⟩ = some (.int .u32 (nv x)) := fun W hW =>
    (hW.cell (p := ⟨g0, o0 + k, none⟩) (Nat.lt_of_lt_of_le HS.out.1 (Nat.le_trans HG.out.2.2.size HB.out.size))).trans ((HB.out.cell (p := ⟨g0, o0 + k, none⟩) (Nat.lt_of_lt_of_le HS.out.1 HG.out.2.2.size)).trans ((HG.out.2.2.cell (p := ⟨g0, o0 + k, none⟩) HS.out.1).trans (by rw [← ex]; exact HS.out.2.1 k _ (swl_get l 64 k hk))))
   have hqk : ∀ W, Below wr.heap.size wr W → W.cell? ⟨G, oG + k, none⟩ = some (.int .u32 (nv y)) := fun W hW =>
    (hW.cell (p := ⟨G, oG + k, none⟩) (Nat.lt_of_lt_of_le HG.out.1 HB.out.size)).trans ((HB.out.cell (p := ⟨G, oG + k, none⟩) HG.out.1).trans (by rw [← ey]; exact HG.out.2.1 k hk))
   have HXY := Lib.hid (And.intro ex ey)
   clear ex ey hrs hbel
   go_wp2_with fail
   obtain ⟨ch, hch⟩ : ∃ y, (e &&& f) ^^^ (~~~e &&& g) = y := ⟨_, rfl⟩
   rw [hch]
   have HCH := Lib.hid hch
   clear hch
   refine Free.wp_free_l 23 (fun W => Below wr.heap.size wr W) [Free.kc (.int .u32 (nv (h'))), Free.kc (.int .u32 (nv (e))), Free.kc (.int .u32 (nv (Sha.rotr e 6))), Free.kc (.int .u32 (nv (e))), Free.kc (.int .u32 (nv (Sha.rotr e 11))), Free.kc (.int .u32 (nv (Sha.rotr e 6 ^^^ Sha.rotr e 11))), Free.kc (.int .u32 (nv (e))), Free.kc (.int .u32 (nv (Sha.rotr e 25))), Free.kc (.int .u32 (nv (Sha.rotr e 6 ^^^ Sha.rotr e 11 ^^^ Sha.rotr e 25))), Free.kc (.int .u32 (nv (h' + (Sha.rotr e 6 ^^^ Sha.rotr e 11 ^^^ Sha.rotr e 25)))), Free.kc (.int .u32 (nv (ch))), Free.kc (.int .u32 (nv (h' + (Sha.rotr e 6 ^^^ Sha.rotr e 11 ^^^ Sha.rotr e 25) + ch))), Free.kc (.slice (some ⟨G, oG, none⟩) 64 64), Free.kc (.int .i64 (k : Int)), Free.kc (.pointer (some ⟨G, oG + k, none⟩)), Free.kc (.int .u32 (nv (y))), Free.kc (.int .u32 (nv (h' + (Sha.rotr e 6 ^^^ Sha.rotr e 11 ^^^ Sha.rotr e 25) + ch + y))), Free.kc (.slice (some ⟨g0, o0, none⟩) 64 cS), Free.kc (.int .i64 (k : Int)), Free.kc (.pointer (some ⟨g0, o0 + k, none⟩)), Free.kc (.int .u32 (nv (x))), Free.kc (.int .u32 (nv (h' + (Sha.rotr e 6 ^^^ Sha.rotr e 11 ^^^ Sha.rotr e 25) + ch + y + x))), Free.kc (.int .u32 (nv (h' + (Sha.rotr e 6 ^^^ Sha.rotr e 11 ^^^ Sha.rotr e 25) + ch + y + x)))] (by kernel_rfl) (by kernel_rfl) (by decide) (Below.refl _ _).drew (fun w w' h g => bt h g) ?_ ?_
   ·
    iterate 23 refine Free.forall_succ ?_ ?_
    all_goals first | exact Free.forall_zero | (refine Free.op fun vals wq hC hd => ?_) | skip
    · exact Free.dm
    · exact Free.dm
    · exact Free.d_call Tryz.func141 (by kernel_rfl) (by kernel_rfl) rfl rfl (Free.arg2 (Free.tr 1 hd) (show _ = (.int .i64 6 : Value) from rfl)) ((right_6 e wq).mono fun e w2 h => ⟨_, h.1, rfl, grow_drewN h.2⟩)
    · exact Free.dm
    · exact Free.d_call Tryz.func141 (by kernel_rfl) (by kernel_rfl) rfl rfl (Free.arg2 (Free.tr 3 hd) (show _ = (.int .i64 11 : Value) from rfl)) ((right_11 e wq).mono fun e w2 h => ⟨_, h.1, rfl, grow_drewN h.2⟩)
    · exact Free.d_bin rfl (Free.tr 2 hd) (Free.tr 4 hd) (by go_simp) (by first | (go_simp; done) | (go_simp; rw [IntWalk.u32_in _ (by omega)]) | (go_simp; rw [IntWalk.i64_in _ (by omega)]) | (go_simp; rw [IntWalk.u8_in _ (by omega)]) | (go_simp; rw [IntKind.wrap_u32]; exact nv_add _ _)) rfl
    · exact Free.dm
    · exact Free.d_call Tryz.func141 (by kernel_rfl) (by kernel_rfl) rfl rfl (Free.arg2 (Free.tr 6 hd) (show _ = (.int .i64 25 : Value) from rfl)) ((right_25 e wq).mono fun e w2 h => ⟨_, h.1, rfl, grow_drewN h.2⟩)
    · exact Free.d_bin rfl (Free.tr 5 hd) (Free.tr 7 hd) (by go_simp) (by first | (go_simp; done) | (go_simp; rw [IntWalk.u32_in _ (by omega)]) | (go_simp; rw [IntWalk.i64_in _ (by omega)]) | (go_simp; rw [IntWalk.u8_in _ (by omega)]) | (go_simp; rw [IntKind.wrap_u32]; exact nv_add _ _)) rfl
    · exact Free.d_bin rfl (Free.tr 0 hd) (Free.tr 8 hd) (by go_simp) (by first | (go_simp; done) | (go_simp; rw [IntWalk.u32_in _ (by omega)]) | (go_simp; rw [IntWalk.i64_in _ (by omega)]) | (go_simp; rw [IntWalk.u8_in _ (by omega)]) | (go_simp; rw [IntKind.wrap_u32]; exact nv_add _ _)) rfl
    · exact Free.dm
    · exact Free.d_bin rfl (Free.tr 9 hd) (Free.tr 10 hd) (by go_simp) (by first | (go_simp; done) | (go_simp; rw [IntWalk.u32_in _ (by omega)]) | (go_simp; rw [IntWalk.i64_in _ (by omega)]) | (go_simp; rw [IntWalk.u8_in _ (by omega)]) | (go_simp; rw [IntKind.wrap_u32]; exact nv_add _ _)) rfl
    · exact Free.dm
    · exact Free.dm
    · exact Free.d_indexAddr rfl (Free.tr 12 hd) (Free.tr 13 hd) (run_idx 161 Tryz.underlying161 (by kernel_rfl) _ _ _ _ _ _ (by omega) (by omega)) rfl
    · exact Free.d_load rfl (Free.tr 14 hd) (by have hcc := hqk wq hC; go_simp) rfl
    · exact Free.d_bin rfl (Free.tr 11 hd) (Free.tr 15 hd) (by go_simp) (by first | (go_simp; done) | (go_simp; rw [IntWalk.u32_in _ (by omega)]) | (go_simp; rw [IntWalk.i64_in _ (by omega)]) | (go_simp; rw [IntWalk.u8_in _ (by omega)]) | (go_simp; rw [IntKind.wrap_u32]; exact nv_add _ _)) rfl
    · exact Free.dm
    · exact Free.dm
    · exact Free.d_indexAddr rfl (Free.tr 17 hd) (Free.tr 18 hd) (run_idx 161 Tryz.underlying161 (by kernel_rfl) _ _ _ _ _ _ (by omega) (by omega)) rfl
    · exact Free.d_load rfl (Free.tr 19 hd) (by have hcc := hqs wq hC; go_simp) rfl
    · exact Free.d_bin rfl (Free.tr 16 hd) (Free.tr 20 hd) (by go_simp) (by first | (go_simp; done) | (go_simp; rw [IntWalk.u32_in _ (by omega)]) | (go_simp; rw [IntWalk.i64_in _ (by omega)]) | (go_simp; rw [IntWalk.u8_in _ (by omega)]) | (go_simp; rw [IntKind.wrap_u32]; exact nv_add _ _)) rfl
    · exact Free.d_assign rfl (Free.tr 21 hd) rfl
   ·
    intro vals wq hC hd
    refine Free.go hd ?_
    rintro _ rfl _ rfl _ rfl _ rfl _ rfl _ rfl _ rfl _ rfl _ rfl _ rfl _ rfl _ rfl _ rfl _ rfl _ rfl _ rfl _ rfl _ rfl _ rfl _ rfl _ rfl _ rfl _ rfl
    simp only [Free.All, Free.fl, Act.put, Free.sa, Free.s0, Free.s1]
    refine wpList_nil ?_
    clear hd
    clear hqs hqk
    have HB3 := Lib.hid (HB.out.trans (hC.mono HB.out.size))
    clear hC
    go_wp2_with (first | (go_at_call 141; with_reducible refine (right_2 _ _).mono ?_; rintro e w' ⟨rfl, m, rfl⟩) | (go_at_call 141; with_reducible refine (right_13 _ _).mono ?_; rintro e w' ⟨rfl, m, rfl⟩) | (go_at_call 141; with_reducible refine (right_22 _ _).mono ?_; rintro e w' ⟨rfl, m, rfl⟩))
    go_roundw
    case rel => exact ⟨k + 1, Sha.round ⟨a, b', c', d, e, f, g, h'⟩ y x, by omega, by go_num, by rw [rs_succ, ← HRS.out, HXY.out.1, HXY.out.2], by rw [nv_add, ← HCH.out]; rfl, rfl, rfl, rfl, by rw [nv_add, ← HCH.out]; rfl, rfl, rfl, rfl, ⟨HB3.out.os, HB3.out.tape, HB3.out.output, HB3.out.size, HB3.out.block⟩⟩
    case measure => simp [intOf]; omega
  ·
   have HF := Lib.hid (show Sha.St.mk a b' c' d e f g h' = rs s l 64 from (show k = 64 by omega) ▸ hrs)
   have h0 : ∀ W, Below wr.heap.size wr W → W.cell? ⟨b, off, none⟩ = some (.int .u32 (nv s.a)) := fun W hW => HLOW.out 0 _ rfl W (bt HB.out hW)
   have h1 : ∀ W, Below wr.heap.size wr W → W.cell? ⟨b, off + 1, none⟩ = some (.int .u32 (nv s.b)) := fun W hW => HLOW.out 1 _ rfl W (bt HB.out hW)
   have h2 : ∀ W, Below wr.heap.size wr W → W.cell? ⟨b, off + 2, none⟩ = some (.int .u32 (nv s.c)) := fun W hW => HLOW.out 2 _ rfl W (bt HB.out hW)
   have h3 : ∀ W, Below wr.heap.size wr W → W.cell? ⟨b, off + 3, none⟩ = some (.int .u32 (nv s.d)) := fun W hW => HLOW.out 3 _ rfl W (bt HB.out hW)
   have h4 : ∀ W, Below wr.heap.size wr W → W.cell? ⟨b, off + 4, none⟩ = some (.int .u32 (nv s.e)) := fun W hW => HLOW.out 4 _ rfl W (bt HB.out hW)
   have h5 : ∀ W, Below wr.heap.size wr W → W.cell? ⟨b, off + 5, none⟩ = some (.int .u32 (nv s.f)) := fun W hW => HLOW.out 5 _ rfl W (bt HB.out hW)
   have h6 : ∀ W, Below wr.heap.size wr W → W.cell? ⟨b, off + 6, none⟩ = some (.int .u32 (nv s.g)) := fun W hW => HLOW.out 6 _ rfl W (bt HB.out hW)
   have h7 : ∀ W, Below wr.heap.size wr W → W.cell? ⟨b, off + 7, none⟩ = some (.int .u32 (nv s.h)) := fun W hW => HLOW.out 7 _ rfl W (bt HB.out hW)
   have HBW := Lib.hid (HB2.out.trans (HB.out.mono HB2.out.size))
   clear hrs hbel
   go_wp2_with fail
   refine Free.wp_free_l 40 (fun W => Below wr.heap.size wr W) [Free.kc (.slice (some ⟨b, off, none⟩) 8 cL), Free.kc (.pointer (some ⟨b, off, none⟩)), Free.kc (.int .u32 (nv s.a)), Free.kc (.int .u32 (nv a)), Free.kc (.int .u32 (nv (s.a + a))), Free.kc (.slice (some ⟨b, off, none⟩) 8 cL), Free.kc (.pointer (some ⟨b, off + 1, none⟩)), Free.kc (.int .u32 (nv s.b)), Free.kc (.int .u32 (nv b')), Free.kc (.int .u32 (nv (s.b + b'))), Free.kc (.slice (some ⟨b, off, none⟩) 8 cL), Free.kc (.pointer (some ⟨b, off + 2, none⟩)), Free.kc (.int .u32 (nv s.c)), Free.kc (.int .u32 (nv c')), Free.kc (.int .u32 (nv (s.c + c'))), Free.kc (.slice (some ⟨b, off, none⟩) 8 cL), Free.kc (.pointer (some ⟨b, off + 3, none⟩)), Free.kc (.int .u32 (nv s.d)), Free.kc (.int .u32 (nv d)), Free.kc (.int .u32 (nv (s.d + d))), Free.kc (.slice (some ⟨b, off, none⟩) 8 cL), Free.kc (.pointer (some ⟨b, off + 4, none⟩)), Free.kc (.int .u32 (nv s.e)), Free.kc (.int .u32 (nv e)), Free.kc (.int .u32 (nv (s.e + e))), Free.kc (.slice (some ⟨b, off, none⟩) 8 cL), Free.kc (.pointer (some ⟨b, off + 5, none⟩)), Free.kc (.int .u32 (nv s.f)), Free.kc (.int .u32 (nv f)), Free.kc (.int .u32 (nv (s.f + f))), Free.kc (.slice (some ⟨b, off, none⟩) 8 cL), Free.kc (.pointer (some ⟨b, off + 6, none⟩)), Free.kc (.int .u32 (nv s.g)), Free.kc (.int .u32 (nv g)), Free.kc (.int .u32 (nv (s.g + g))), Free.kc (.slice (some ⟨b, off, none⟩) 8 cL), Free.kc (.pointer (some ⟨b, off + 7, none⟩)), Free.kc (.int .u32 (nv s.h)), Free.kc (.int .u32 (nv h')), Free.kc (.int .u32 (nv (s.h + h')))] (by kernel_rfl) (by kernel_rfl) (by decide) (Below.refl _ _).drew (fun w w' h g => bt h g) ?_ ?_
   ·
    iterate 40 refine Free.forall_succ ?_ ?_
    all_goals first | exact Free.forall_zero | (refine Free.op fun vals wq hC hd => ?_) | skip
    · exact Free.dm
    · exact Free.d_indexAddr rfl (Free.tr 0 hd) (show _ = (.int .i64 0 : Value) from rfl) (run_idx (i := 0) 161 Tryz.underlying161 (by kernel_rfl) b off 8 cL 0 rfl (by omega)) rfl
    · exact Free.d_load rfl (Free.tr 1 hd) (by have hcc := h0 wq hC; go_simp) rfl
    · exact Free.dm
    · exact Free.d_bin rfl (Free.tr 2 hd) (Free.tr 3 hd) (by go_simp) (by first | (go_simp; done) | (go_simp; rw [IntWalk.u32_in _ (by omega)]) | (go_simp; rw [IntWalk.i64_in _ (by omega)]) | (go_simp; rw [IntWalk.u8_in _ (by omega)]) | (go_simp; rw [IntKind.wrap_u32]; exact nv_add _ _)) rfl
    · exact Free.dm
    · exact Free.d_indexAddr rfl (Free.tr 5 hd) (show _ = (.int .i64 1 : Value) from rfl) (run_idx 161 Tryz.underlying161 (by kernel_rfl) _ _ _ _ _ _ (by omega) (by omega)) rfl
    · exact Free.d_load rfl (Free.tr 6 hd) (by have hcc := h1 wq hC; go_simp) rfl
    · exact Free.dm
    · exact Free.d_bin rfl (Free.tr 7 hd) (Free.tr 8 hd) (by go_simp) (by first | (go_simp; done) | (go_simp; rw [IntWalk.u32_in _ (by omega)]) | (go_simp; rw [IntWalk.i64_in _ (by omega)]) | (go_simp; rw [IntWalk.u8_in _ (by omega)]) | (go_simp; rw [IntKind.wrap_u32]; exact nv_add _ _)) rfl
    · exact Free.dm
    · exact Free.d_indexAddr rfl (Free.tr 10 hd) (show _ = (.int .i64 2 : Value) from rfl) (run_idx 161 Tryz.underlying161 (by kernel_rfl) _ _ _ _ _ _ (by omega) (by omega)) rfl
    · exact Free.d_load rfl (Free.tr 11 hd) (by have hcc := h2 wq hC; go_simp) rfl
    · exact Free.dm
    · exact Free.d_bin rfl (Free.tr 12 hd) (Free.tr 13 hd) (by go_simp) (by first | (go_simp; done) | (go_simp; rw [IntWalk.u32_in _ (by omega)]) | (go_simp; rw [IntWalk.i64_in _ (by omega)]) | (go_simp; rw [IntWalk.u8_in _ (by omega)]) | (go_simp; rw [IntKind.wrap_u32]; exact nv_add _ _)) rfl
    · exact Free.dm
    · exact Free.d_indexAddr rfl (Free.tr 15 hd) (show _ = (.int .i64 3 : Value) from rfl) (run_idx 161 Tryz.underlying161 (by kernel_rfl) _ _ _ _ _ _ (by omega) (by omega)) rfl
    · exact Free.d_load rfl (Free.tr 16 hd) (by have hcc := h3 wq hC; go_simp) rfl
    · exact Free.dm
    · exact Free.d_bin rfl (Free.tr 17 hd) (Free.tr 18 hd) (by go_simp) (by first | (go_simp; done) | (go_simp; rw [IntWalk.u32_in _ (by omega)]) | (go_simp; rw [IntWalk.i64_in _ (by omega)]) | (go_simp; rw [IntWalk.u8_in _ (by omega)]) | (go_simp; rw [IntKind.wrap_u32]; exact nv_add _ _)) rfl
    · exact Free.dm
    · exact Free.d_indexAddr rfl (Free.tr 20 hd) (show _ = (.int .i64 4 : Value) from rfl) (run_idx 161 Tryz.underlying161 (by kernel_rfl) _ _ _ _ _ _ (by omega) (by omega)) rfl
    · exact Free.d_load rfl (Free.tr 21 hd) (by have hcc := h4 wq hC; go_simp) rfl
    · exact Free.dm
    · exact Free.d_bin rfl (Free.tr 22 hd) (Free.tr 23 hd) (by go_simp) (by first | (go_simp; done) | (go_simp; rw [IntWalk.u32_in _ (by omega)]) | (go_simp; rw [IntWalk.i64_in _ (by omega)]) | (go_simp; rw [IntWalk.u8_in _ (by omega)]) | (go_simp; rw [IntKind.wrap_u32]; exact nv_add _ _)) rfl
    · exact Free.dm
    · exact Free.d_indexAddr rfl (Free.tr 25 hd) (show _ = (.int .i64 5 : Value) from rfl) (run_idx 161 Tryz.underlying161 (by kernel_rfl) _ _ _ _ _ _ (by omega) (by omega)) rfl
    · exact Free.d_load rfl (Free.tr 26 hd) (by have hcc := h5 wq hC; go_simp) rfl
    · exact Free.dm
    · exact Free.d_bin rfl (Free.tr 27 hd) (Free.tr 28 hd) (by go_simp) (by first | (go_simp; done) | (go_simp; rw [IntWalk.u32_in _ (by omega)]) | (go_simp; rw [IntWalk.i64_in _ (by omega)]) | (go_simp; rw [IntWalk.u8_in _ (by omega)]) | (go_simp; rw [IntKind.wrap_u32]; exact nv_add _ _)) rfl
    · exact Free.dm
    · exact Free.d_indexAddr rfl (Free.tr 30 hd) (show _ = (.int .i64 6 : Value) from rfl) (run_idx 161 Tryz.underlying161 (by kernel_rfl) _ _ _ _ _ _ (by omega) (by omega)) rfl
    · exact Free.d_load rfl (Free.tr 31 hd) (by have hcc := h6 wq hC; go_simp) rfl
    · exact Free.dm
    · exact Free.d_bin rfl (Free.tr 32 hd) (Free.tr 33 hd) (by go_simp) (by first | (go_simp; done) | (go_simp; rw [IntWalk.u32_in _ (by omega)]) | (go_simp; rw [IntWalk.i64_in _ (by omega)]) | (go_simp; rw [IntWalk.u8_in _ (by omega)]) | (go_simp; rw [IntKind.wrap_u32]; exact nv_add _ _)) rfl
    · exact Free.dm
    · exact Free.d_indexAddr rfl (Free.tr 35 hd) (show _ = (.int .i64 7 : Value) from rfl) (run_idx 161 Tryz.underlying161 (by kernel_rfl) _ _ _ _ _ _ (by omega) (by omega)) rfl
    · exact Free.d_load rfl (Free.tr 36 hd) (by have hcc := h7 wq hC; go_simp) rfl
    · exact Free.dm
    · exact Free.d_bin rfl (Free.tr 37 hd) (Free.tr 38 hd) (by go_simp) (by first | (go_simp; done) | (go_simp; rw [IntWalk.u32_in _ (by omega)]) | (go_simp; rw [IntWalk.i64_in _ (by omega)]) | (go_simp; rw [IntWalk.u8_in _ (by omega)]) | (go_simp; rw [IntKind.wrap_u32]; exact nv_add _ _)) rfl
   ·
    intro vals wq hC hd
    refine Free.go hd ?_
    rintro _ rfl _ rfl _ rfl _ rfl _ rfl _ rfl _ rfl _ rfl _ rfl _ rfl _ rfl _ rfl _ rfl _ rfl _ rfl _ rfl _ rfl _ rfl _ rfl _ rfl _ rfl _ rfl _ rfl _ rfl _ rfl _ rfl _ rfl _ rfl _ rfl _ rfl _ rfl _ rfl _ rfl _ rfl _ rfl _ rfl _ rfl _ rfl _ rfl _ rfl
    simp only [Free.All, Free.fl, Act.put, Free.sa, Free.s0, Free.s1]
    clear hd
    clear h0 h1 h2 h3 h4 h5 h6 h7
    have HBQ := Lib.hid (HBW.out.trans (hC.mono HBW.out.size))
    go_wp2
    go_ret
    exact rblock_mk (t := s.add ⟨a, b', c', d, e, f, g, h'⟩) _ _ HBQ.out rfl (by rw [rs_all, ← HF.out])
theorem zeros_lt2 (n j : Nat) (hj : j ≤ Sha.zeros n) (h2 : ¬ ((n + 1 + j : Nat) : Int) % 64 = 56) : j + 1 ≤ Sha.zeros n := by
 unfold Sha.zeros at *; omega
theorem zeros_eq2 (n j : Nat) (hj : j ≤ Sha.zeros n) (h2 : ((n + 1 + j : Nat) : Int) % 64 = 56) : j = Sha.zeros n := by
 unfold Sha.zeros at *; omega
theorem lenBytes_drop (N k : Nat) (h : k < 8) : (Sha.lenBytes N).drop (8 - (k + 1)) = UInt8.ofNat (N * 8 / 2 ^ (8 * k) % 256) :: (Sha.lenBytes N).drop (8 - k) := by
 have hl : (Sha.lenBytes N).length = 8 := rfl
 rw [List.drop_eq_getElem_cons (by rw [hl]; omega)]
 congr 1
 ·
  simp only [Sha.lenBytes, List.getElem_map, List.getElem_range]
  rw [show 56 - 8 * (8 - (k + 1)) = 8 * k by omega]
 · rw [show 8 - (k + 1) + 1 = 8 - k by omega]
theorem div_step (N k : Nat) : N / 2 ^ (8 * k) / 256 = N / 2 ^ (8 * (k + 1)) := by
 rw [Nat.div_div_eq_div_mul, show (256 : Nat) = 2 ^ 8 from rfl, ← Nat.pow_add]
 rfl
theorem one_bv (l : List UInt8) : ∀ u ∈ l.map bv, u.oneCell' = true := fun u hu => by
 obtain ⟨x, _, rfl⟩ := List.mem_map.1 hu
 rfl
def PadPost (l : List UInt8) (w : World) (e : Ending) (w' : World) : Prop :=
 ∃ A c, e = .returned (.slice A (Sha.tail l l.length).length c) ∧ Rd w' w'.heap.size A ((Sha.tail l l.length).map bv) ∧ (Sha.tail l l.length).length ≤ c ∧ c ≤ maxLen ∧ Below w.heap.size w w'
theorem padded_any (A : Option Addr) (n c : Nat) (l : List UInt8) (w : World) (hA : Rd w w.heap.size A (l.map bv)) (hn : l.length = n) (hc : n ≤ c) (hm : c ≤ maxLen) (hb : n ≤ 1099511627776) :
  Calls Tryz.prog 128 #[.slice A n c] w (PadPost l w) := by
 rw [maxLen_eq] at hm
 have HA := Lib.hid (And.intro hA hn)
 clear hA hn
 go_enter Tryz.func128, Tryz.ntmps128
 go_wp2_with (first
  | (at_builtin; refine wl_app rfl (.tmp 7) (.tmp 8) 28 rfl w.heap.size 5 1 1 bytesT _ 0 [] rfl (own_empty w 5 1 (Nat.le_refl _)) w.heap.size A n c (l.map bv) rfl (HA.out.1.alloc (Nat.le_refl _) _) (by simpa using HA.out.2) (by simp [bv, Value.oneCell']) (by rw [maxLen_eq]; omega) (by omega) (by unfold World.alloc; simp) ?_; intro A2 c2 w2 hown2 hg2 hat2 hb2 hc2 hc2'; simp only [Nat.zero_add, List.nil_append] at hown2 hc2; have HO2 := Lib.hid hown2; have HB2 := Lib.hid (((Below.refl w.heap.size w).alloc (Nat.le_refl _) _).trans hb2); clear hown2 hg2 hat2 hb2 hc2 hc2')
  | (at_builtin; refine wl_app rfl (.tmp 9) (.tmp 10) 28 rfl w.heap.size 5 1 1 bytesT _ n _ rfl (HO2.out.alloc _) (w2.heap.size + 1) (some ⟨w2.heap.size, 0, none⟩) 1 1 ([128].map bv) rfl (rd_new w2 ([128].map bv) 5 (0, 0)) rfl (by simp [bv, Value.oneCell']) (by rw [maxLen_eq]; omega) (by omega) (Nat.le_trans HB2.out.size (by unfold World.alloc; simp)) ?_; intro A3 c3 w3 hown3 hg3 hat3 hb3 hc3 hc3'; rw [← List.map_append] at hown3; have HO3 := Lib.hid hown3; have HB3 := Lib.hid ((HB2.out.alloc HB2.out.size _).trans hb3); have hc3a := hc3; have hc3b := hc3'; rw [maxLen_eq] at hc3b; clear hown3 hg3 hat3 hb3 hc3 hc3'))
 have hz := zeros_le n
 clear HO2 HB2
 go_loopw [3] (fun v wr => ∃ (j t : Nat) (A' : Option Addr) (c' : Nat), t = n + 1 + j ∧ v = .slice A' t c' ∧ t ≤ c' ∧ c' ≤ 9223372036854775807 ∧ j ≤ Sha.zeros n ∧ wr.ownsRow w.heap.size 5 1 (.slice A' t c') t ((l ++ [128] ++ List.replicate j 0).map bv) ∧ Below w.heap.size w wr) (fun v _ => match v with | .slice _ m _ => n + 200 - m | _ => 0)
 case atStart => exact ⟨0, n + 1, A3, c3, rfl, rfl, hc3a, hc3b, Nat.zero_le _, by simpa using HO3.out, HB3.out⟩
 clear hc3a hc3b HO3 HB3
 case round =>
  obtain ⟨j, t, A', c', ht, rfl, hc', hc'', hj, hown, hbel⟩ := hrel
  have HO := Lib.hid hown
  have HB := Lib.hid hbel
  have htm : ((t : Nat) : Int).tmod 64 = (t : Int) % 64 := Int.tmod_eq_emod_of_nonneg (by omega)
  have ht2 : t ≤ n + 128 := by omega
  have ht3 : n + 1 ≤ t := by omega
  by_cases h56 : (t : Int) % 64 = 56
  ·
   have hje : j = Sha.zeros n := zeros_eq2 n j hj (by rw [← ht]; exact h56)
   have HT := Lib.hid ht
   have HT0 := Lib.hid (show wr.ownsRow w.heap.size 5 1 (.slice A' t c') t ((l ++ [128] ++ List.replicate (Sha.zeros n) 0).map bv) by rw [← hje]; exact hown)
   have hnb2 : (n : Int) * 8 ≤ 8796093022208 := by omega
   clear hown hbel hje ht hj HO
   go_wp2
   go_loopw [4, 5, 6] (fun q v i wz => ∃ (k mm : Nat) (A2 : Option Addr) (c2 : Nat), k ≤ 8 ∧ i = .int .i64 k ∧ mm = n * 8 / 2 ^ (8 * k) ∧ q = .int .u64 mm ∧ v = .slice A2 k c2 ∧ k ≤ c2 ∧ c2 ≤ 9223372036854775807 ∧ Rd wz wz.heap.size A2 (((Sha.lenBytes n).drop (8 - k)).map bv) ∧ Below wr.heap.size wr wz) (fun _ _ i _ => 8 - (intOf i).toNat)
   case atStart => exact ⟨0, n * 8, none, 0, by omega, rfl, by simp, by go_num, rfl, Nat.le_refl _, by omega, Rd.nil, Below.refl _ _⟩
   case round =>
    obtain ⟨k, mm, A2, c2, hk8, rfl, hmm, rfl, rfl, hc2, hc2', hrd, hbel⟩ := hrel
    have HRD := Lib.hid hrd
    have HB2 := Lib.hid hbel
    have HM := Lib.hid hmm
    have hmb : mm ≤ 8796093022208 := by
     rw [hmm]
     exact Nat.le_trans (Nat.div_le_self _ _) (by omega)
    clear hrd hbel hmm
    by_cases hk : k < 8
    ·
     have hlb := lenBytes_drop n k hk
     rw [← HM.out] at hlb
     have HLB := Lib.hid hlb
     have hll : ((Sha.lenBytes n).drop (8 - k)).length = k := by
      rw [List.length_drop]
      show 8 - (8 - k) = k
      omega
     have HLL := Lib.hid hll
     have tm1 : (mm : Int).tmod 256 = (mm : Int) % 256 := Int.tmod_eq_emod_of_nonneg (by omega)
     have td1 : (mm : Int).tdiv 256 = (mm : Int) / 256 := Int.tdiv_eq_ediv_of_nonneg (by omega)
     clear hlb hll
     go_wp2_with (first
      | (at_builtin; refine wl_app rfl (.tmp 30) (.tmp 31) 28 rfl _ 5 1 1 bytesT _ 1 [_] rfl (own_new _ [_] 5 1 1 rfl (by decide) (Nat.le_refl _)) _ A2 k c2 (((Sha.lenBytes n).drop (8 - k)).map bv) rfl (HRD.out.alloc (Nat.le_refl _) _) (by simpa using HLL.out) (one_bv _) (by rw [maxLen_eq]; omega) (by omega) (by unfold World.alloc; simp) ?_; intro A3 c3 w3 hown3 hg3 hat3 hb3 hd3 hd3'; have HR3 := Lib.hid (Rd.of_own hown3); have HB3 := Lib.hid ((HB2.out.alloc HB2.out.size _).trans (hb3.mono HB2.out.size)); have HC3 := Lib.hid (And.intro hd3 hd3'); clear hown3 hg3 hat3 hb3 hd3 hd3'))
     go_roundw
     case rel =>
      refine ⟨k + 1, mm / 256, A3, c3, by omega, by go_num, by rw [HM.out]; exact div_step _ _, by go_num, by rw [Nat.add_comm], by have := HC3.out.1; omega, by have := HC3.out.2; rw [maxLen_eq] at this; exact this, ?_, HB3.out⟩
      rw [HLB.out, List.map_cons, bv_ofNat _ (Nat.mod_lt _ (by decide))]
      exact HR3.out
     case measure => simp [intOf]; omega
    ·
     obtain rfl : k = 8 := by omega
     have hlen8 : ((Sha.lenBytes n).drop (8 - 8)) = Sha.lenBytes n := rfl
     have hrd8 := HRD.out
     rw [hlen8] at hrd8
     have HR8 := Lib.hid hrd8
     have HOK := Lib.hid (own_keep HT0.out HB2.out (Nat.le_refl _))
     have HBB := Lib.hid (HB.out.trans (HB2.out.mono HB.out.size))
     clear hrd8 hlen8
     go_wp2_with (first
      | (at_builtin; refine wl_app rfl (.tmp 35) (.tmp 36) 28 rfl w.heap.size 5 1 1 bytesT _ t _ rfl HOK.out _ A2 8 c2 ((Sha.lenBytes n).map bv) rfl HR8.out rfl (by simp [bv, Value.oneCell']) (by rw [maxLen_eq]; omega) (by omega) HBB.out.size ?_; intro A3 c3 w3 hown3 hg3 hat3 hb3 hd3 hd3'; rw [← List.map_append] at hown3; have HR3 := Lib.hid (And.intro (Rd.of_own hown3) hown3.1); have HB3 := Lib.hid (HBB.out.trans hb3); have HC3 := Lib.hid (And.intro hd3 hd3'); clear hown3 hg3 hat3 hb3 hd3 hd3'))
     go_ret
     have hT : l ++ [128] ++ List.replicate (Sha.zeros n) 0 ++ Sha.lenBytes n = Sha.tail l l.length := by
      unfold Sha.tail; rw [HA.out.2]
     have hr := HR3.out
     rw [hT] at hr
     have hlen : (Sha.tail l l.length).length = t + 8 := by have := hr.2; simpa using this
     exact ⟨A3, c3, by rw [hlen]; rfl, hr.1, by rw [hlen]; exact HC3.out.1, HC3.out.2, HB3.out⟩
  ·
   have hj2 := zeros_lt2 n j hj (by rw [← ht]; exact h56)
   have HT := Lib.hid ht
   have HJ2 := Lib.hid hj2
   clear hown hbel hj ht hj2
   go_wp2_with (first
    | (at_builtin; refine wl_app rfl (.tmp 16) (.tmp 17) 28 rfl w.heap.size 5 1 1 bytesT _ t _ rfl (HO.out.alloc _) (wr.heap.size + 1) (some ⟨wr.heap.size, 0, none⟩) 1 1 ([0].map bv) rfl (rd_new wr ([0].map bv) 5 (0, 0)) rfl (by simp [bv, Value.oneCell']) (by rw [maxLen_eq]; omega) (by omega) (Nat.le_trans HB.out.size (by unfold World.alloc; simp)) ?_; intro A3 c3 w3 hown3 hg3 hat3 hb3 hc3 hc3'; rw [← List.map_append] at hown3; have HO3 := Lib.hid hown3; have HB3 := Lib.hid ((HB.out.alloc HB.out.size _).trans hb3); have HC3 := Lib.hid (And.intro hc3 hc3'); clear hown3 hg3 hat3 hb3 hc3 hc3'))
   go_roundw
   case rel => exact ⟨j + 1, t + 1, A3, c3, by have := HT.out; omega, rfl, HC3.out.1, by have := HC3.out.2; rw [maxLen_eq] at this; exact this, HJ2.out, by have h := HO3.out; rw [List.append_assoc, ← List.replicate_succ'] at h; exact h, HB3.out⟩
   case measure => simp; omega
theorem tail_len (l : List UInt8) (n : Nat) : (Sha.tail l n).length % 64 = 0 := by
 have h : (Sha.lenBytes n).length = 8 := rfl
 unfold Sha.tail
 simp only [List.length_append, List.length_cons, List.length_nil, List.length_replicate, h]
 unfold Sha.zeros
 omega
theorem tail_le (l : List UInt8) (n : Nat) : (Sha.tail l n).length ≤ l.length + 128 := by
 have h : (Sha.lenBytes n).length = 8 := rfl
 unfold Sha.tail
 simp only [List.length_append, List.length_cons, List.length_nil, List.length_replicate, h]
 unfold Sha.zeros
 omega
theorem sum_pad (l : List UInt8) : Sha.sum l = (Sha.proc Sha.begin_ (Sha.tail l l.length)).1.bytes := by
 have h : Sha.zeros (Sha.proc Sha.begin_ l).2.length = Sha.zeros l.length := by
  rw [Sha.proc_rest]; unfold Sha.zeros; rw [Nat.mod_mod]
 have key : ∀ (r : List UInt8) (n : Nat), Sha.tail r n = r ++ ([0x80] ++ List.replicate (Sha.zeros r.length) 0 ++ Sha.lenBytes n) := fun r n => by
  unfold Sha.tail; simp only [List.append_assoc]
 rw [Sha.sum, Sha.end_, key, h, key l, Sha.proc_append _ l Sha.begin_]
def RSumPost (l : List UInt8) (w : World) (e : Ending) (w' : World) : Prop := e = .returned (sv (Sha.sum l)) ∧ Below w.heap.size w w'
structure SRel (P : List UInt8) (s : Sha.St) (A : Option Addr) (w wr : World) : Prop where
 below : Below w.heap.size w wr
 rd : Rd wr wr.heap.size A (s.list.map uv)
theorem srel_start (w : World) (P : List UInt8) (cs : Array Value) (t : TypeId) (h : cs = (Sha.begin_.list.map uv).toArray) : SRel P Sha.begin_ (some ⟨w.heap.size, 0, none⟩) w (w.alloc (.cells cs t)) := by
 subst h
 exact ⟨(Below.refl _ w).alloc (Nat.le_refl _) _, (rd_new w _ _ _).more (by unfold World.alloc; simp)⟩
theorem rsum_any (A : Option Addr) (n c : Nat) (l : List UInt8) (w : World) (hA : Rd w w.heap.size A (l.map bv)) (hn : l.length = n) (hc : n ≤ c) (hm : c ≤ maxLen) (hb : n ≤ 1099511627776) :
  Calls Tryz.prog 100 #[.slice A n c] w (RSumPost l w) := by
 have HA := Lib.hid (And.intro hA hn)
 clear hA hn
 go_enter Tryz.func100, Tryz.ntmps100
 go_wp2_with fail
 generalize hw1 : World.alloc w _ = w1
 have hs1 : SRel (Sha.tail l l.length) Sha.begin_ (some ⟨w.heap.size, 0, none⟩) w w1 := by
  rw [← hw1]
  exact srel_start w _ _ _ rfl
 have HS1 := Lib.hid hs1
 clear hw1 hs1
 refine (padded_any A n c l w1 (HA.out.1.below' HS1.out.below (Nat.le_refl _) |>.more HS1.out.below.size) HA.out.2 hc hm hb).mono ?_
 rintro e w2 ⟨AP, cP, rfl, hrP, hcP, hcP', hb2⟩
 obtain ⟨P, hP⟩ : ∃ P, Sha.tail l l.length = P := ⟨_, rfl⟩
 have hP64 : P.length % 64 = 0 := by rw [← hP]; exact tail_len _ _
 have hPle : P.length ≤ n + 128 := by rw [← hP, ← HA.out.2]; exact tail_le _ _
 have hsum : Sha.sum l = (Sha.proc Sha.begin_ P).1.bytes := by rw [← hP]; exact sum_pad l
 rw [hP] at hrP hcP ⊢
 obtain ⟨pn, hpn⟩ : ∃ q, P.length = q := ⟨_, rfl⟩
 rw [hpn] at hP64 hPle hcP ⊢
 have HPL := Lib.hid hpn
 have HP := Lib.hid hrP
 have HSUM := Lib.hid hsum
 have HB2 := Lib.hid (HS1.out.below.trans (hb2.mono HS1.out.below.size))
 have HW0 := Lib.hid (HS1.out.rd.below' hb2 (Nat.le_refl _) |>.more hb2.size)
 rw [maxLen_eq] at hcP' hm
 clear hP hsum hrP hb2 hpn
 go_wp2_with fail
 go_loopw [3, 5] (fun v i wr => ∃ (k : Nat) (s : Sha.St) (A' : Option Addr) (c' : Nat), 64 * k ≤ pn ∧ i = .int .i64 (64 * k : Nat) ∧ v = .slice A' 8 c' ∧ 8 ≤ c' ∧ c' ≤ 9223372036854775807 ∧ Sha.proc Sha.begin_ P = Sha.proc s (P.drop (64 * k)) ∧ Rd wr wr.heap.size A' (s.list.map uv) ∧ Below w2.heap.size w2 wr) (fun _ i _ => pn - (intOf i).toNat)
 case atStart => exact ⟨0, Sha.begin_, _, 8, by omega, rfl, rfl, by omega, by omega, rfl, HW0.out, Below.refl _ _⟩
 clear HW0
 case round =>
  obtain ⟨k, s, A', c', hk, rfl, rfl, hc1, hc2, hpr, hrd, hbel⟩ := hrel
  have HPR := Lib.hid hpr
  have HRD := Lib.hid hrd
  have HB := Lib.hid hbel
  clear hpr hrd hbel
  obtain ⟨ix, hix⟩ : ∃ x, 64 * k = x := ⟨_, rfl⟩
  rw [hix] at hk ⊢
  by_cases hlt : ix < pn
  ·
   have hle : ix + 64 ≤ pn := by omega
   have HIX := Lib.hid hix
   have hblk : ((P.take (ix + 64)).drop ix).length = 64 := by
    rw [List.length_drop, List.length_take, HPL.out]; omega
   have HBL := Lib.hid hblk
   clear hblk hix
   go_wp2_with (first
    | (refine wl_cut_lh rfl 28 (.tmp 18) (.tmp 19) (.tmp 21) rfl 5 Tryz.underlying28 size_u8 AP pn cP rfl .i64 .i64 (ix : Int) ((ix : Int) + 64) rfl rfl (by omega) (by omega) (by omega) hcP w2.heap.size _ (HP.out.below HB.out) (by simpa using HPL.out) ?_; intro A2 hr2; have hr3 : Rd wr w2.heap.size A2 (((P.take (ix + 64)).drop ix).map bv) := (by have h := hr2; rw [Int.toNat_natCast, show ((ix : Int) + 64).toNat = ix + 64 by omega, ← List.map_take, ← List.map_drop] at h; exact h); have HR3 := Lib.hid (hr3.more HB.out.size); rw [show ((ix : Int) + 64).toNat - (ix : Int).toNat = 64 by omega]; clear hr2 hr3)
    | (go_at_call 129; refine (rblock_any s A' c' A2 (cP - ix) ((P.take (ix + 64)).drop ix) HBL.out wr HRD.out hc1 HR3.out (by omega) (by rw [maxLen_eq]; omega)).mono ?_; rintro e w4 ⟨A4, c4, rfl, hr4, hc4, hc4', hb4⟩; have HR4 := Lib.hid (And.intro hr4 (And.intro hc4 hc4')); have HB4 := Lib.hid (HB.out.trans (hb4.mono HB.out.size)); clear hr4 hc4 hc4' hb4))
   go_roundw
   case rel =>
    refine ⟨k + 1, Sha.block s ((P.take (ix + 64)).drop ix), A4, c4, by have := HIX.out; omega, by have := HIX.out; go_num, rfl, HR4.out.2.1, by have := HR4.out.2.2; rw [maxLen_eq] at this; exact this, ?_, HR4.out.1, HB4.out⟩
    rw [HPR.out, HIX.out, Sha.proc_step s (P.drop ix) (by rw [List.length_drop, HPL.out]; omega), List.drop_drop, List.drop_take, show ix + 64 - ix = 64 by omega, show 64 * (k + 1) = ix + 64 by have := HIX.out; omega]
   case measure => simp [intOf]; omega
  ·
   have hkn : ix = pn := by omega
   have hfin : Sha.proc Sha.begin_ P = (s, []) := by
    rw [HPR.out, hix, hkn, List.drop_of_length_le (by rw [HPL.out]; exact Nat.le_refl _), Sha.proc_short _ _ (by simp)]
   have HF := Lib.hid hfin
   obtain ⟨g, o, rfl, hg, hcl⟩ := HRD.out (by simp [Sha.St.list])
   have HCL := Lib.hid (And.intro hg hcl)
   clear hfin hkn hix hg hcl hP64
   go_wp2
   go_loopw [6, 7] (fun v i wz => ∃ (k u : Nat) (A6 : Option Addr) (c6 : Nat), k ≤ 8 ∧ i = .int .i64 k ∧ u = 4 * k ∧ v = .slice A6 u c6 ∧ u ≤ c6 ∧ c6 ≤ 9223372036854775807 ∧ wz.ownsRow wr.heap.size 5 1 (.slice A6 u c6) u (((s.list.take k).flatMap Sha.wordBytes).map bv) ∧ Below wr.heap.size wr wz) (fun _ i _ => 8 - (intOf i).toNat)
   case atStart => exact ⟨0, 0, none, 0, by omega, rfl, rfl, rfl, Nat.le_refl _, by omega, own_nil _ _ _ _, Below.refl _ _⟩
   case round =>
    obtain ⟨k, u, A6, c6, hk8, rfl, hu, rfl, hc6, hc6', hown, hbel⟩ := hrel
    have HO := Lib.hid hown
    have HBZ := Lib.hid hbel
    have HU := Lib.hid hu
    have hu2 : u ≤ 32 := by omega
    clear hown hbel hu
    by_cases hk : k < 8
    ·
     obtain ⟨x, hx⟩ : ∃ x, s.list[k]? = some x := ⟨_, List.getElem?_eq_getElem (show k < s.list.length from hk)⟩
     have HX := Lib.hid hx
     have htk : s.list.take (k + 1) = s.list.take k ++ [x] := by rw [List.take_add_one, hx]; rfl
     have HTK := Lib.hid htk
     clear hx htk
     go_wp2_with fail
     have hq : ∀ W, Below wr.heap.size wr W → W.cell? ⟨g, o + k, none⟩ = some (.int .u32 (nv x)) := fun W hW =>
      (hW.cell (p := ⟨g, o + k, none⟩) (Nat.lt_of_lt_of_le HCL.out.1 HBZ.out.size)).trans ((HBZ.out.cell (p := ⟨g, o + k, none⟩) HCL.out.1).trans (HCL.out.2 k _ (by rw [List.getElem?_map, HX.out]; rfl)))
     have x0 := nv_lo x
     have x1 := nv_hi x
     have td24 : (nv x).tdiv 16777216 = nv x / 16777216 := Int.tdiv_eq_ediv_of_nonneg x0
     have td16 : (nv x).tdiv 65536 = nv x / 65536 := Int.tdiv_eq_ediv_of_nonneg x0
     have td8 : (nv x).tdiv 256 = nv x / 256 := Int.tdiv_eq_ediv_of_nonneg x0
     have tm16 : (nv x / 65536).tmod 256 = nv x / 65536 % 256 := Int.tmod_eq_emod_of_nonneg (by omega)
     have tm8 : (nv x / 256).tmod 256 = nv x / 256 % 256 := Int.tmod_eq_emod_of_nonneg (by omega)
     have tm0 : (nv x).tmod 256 = nv x % 256 := Int.tmod_eq_emod_of_nonneg x0
     refine Free.wp_free_l 28 (fun W => Below wr.heap.size wr W) [Free.kc (.slice A6 u c6), Free.kc (.slice (some ⟨g, o, none⟩) 8 c'), Free.kc (.int .i64 (k : Int)), Free.kc (.pointer (some ⟨g, o + k, none⟩)), Free.kc (.int .u32 (nv x)), Free.kc (.int .u32 (nv x / 16777216)), Free.kc (.int .u8 (nv x / 16777216)), Free.kc (.slice (some ⟨g, o, none⟩) 8 c'), Free.kc (.int .i64 (k : Int)), Free.kc (.pointer (some ⟨g, o + k, none⟩)), Free.kc (.int .u32 (nv x)), Free.kc (.int .u32 (nv x / 65536)), Free.kc (.int .u32 ((nv x / 65536) % 256)), Free.kc (.int .u8 ((nv x / 65536) % 256)), Free.kc (.slice (some ⟨g, o, none⟩) 8 c'), Free.kc (.int .i64 (k : Int)), Free.kc (.pointer (some ⟨g, o + k, none⟩)), Free.kc (.int .u32 (nv x)), Free.kc (.int .u32 (nv x / 256)), Free.kc (.int .u32 ((nv x / 256) % 256)), Free.kc (.int .u8 ((nv x / 256) % 256)), Free.kc (.slice (some ⟨g, o, none⟩) 8 c'), Free.kc (.int .i64 (k : Int)), Free.kc (.pointer (some ⟨g, o + k, none⟩)), Free.kc (.int .u32 (nv x)), Free.kc (.int .u32 (nv x % 256)), Free.kc (.int .u8 (nv x % 256)), Free.kr (4) ([.int .u8 (nv x / 16777216), .int .u8 ((nv x / 65536) % 256), .int .u8 ((nv x / 256) % 256), .int .u8 (nv x % 256)])] (by kernel_rfl) (by kernel_rfl) (by decide) (Below.refl _ _).drew (fun w w' h g => bt h g) ?_ ?_
     ·
      iterate 28 refine Free.forall_succ ?_ ?_
      all_goals first | exact Free.forall_zero | (refine Free.op fun vals wq hC hd => ?_) | skip
      · exact Free.dm
      · exact Free.dm
      · exact Free.dm
      · exact Free.d_indexAddr rfl (Free.tr 1 hd) (Free.tr 2 hd) (run_idx 161 Tryz.underlying161 (by kernel_rfl) _ _ _ _ _ _ (by omega) (by omega)) rfl
      · exact Free.d_load rfl (Free.tr 3 hd) (by have hcc := hq wq hC; go_simp) rfl
      · exact Free.d_bin rfl (Free.tr 4 hd) (show _ = (.int .u32 16777216 : Value) from rfl) (by go_simp) (by first | (go_simp; done) | (go_simp; rw [IntWalk.u32_in _ (by omega)]) | (go_simp; rw [IntWalk.i64_in _ (by omega)]) | (go_simp; rw [IntWalk.u8_in _ (by omega)]) | (go_simp; rw [IntKind.wrap_u32]; exact nv_add _ _)) rfl
      · exact Free.d_conv rfl (Free.tr 5 hd) (by first | (go_simp; done) | (go_simp; rw [IntWalk.u32_in _ (by omega)]) | (go_simp; rw [IntWalk.i64_in _ (by omega)]) | (go_simp; rw [IntWalk.u8_in _ (by omega)]) | (go_simp; rw [IntKind.wrap_u32]; exact nv_add _ _)) (Below.refl _ _) rfl
      · exact Free.dm
      · exact Free.dm
      · exact Free.d_indexAddr rfl (Free.tr 7 hd) (Free.tr 8 hd) (run_idx 161 Tryz.underlying161 (by kernel_rfl) _ _ _ _ _ _ (by omega) (by omega)) rfl
      · exact Free.d_load rfl (Free.tr 9 hd) (by have hcc := hq wq hC; go_simp) rfl
      · exact Free.d_bin rfl (Free.tr 10 hd) (show _ = (.int .u32 65536 : Value) from rfl) (by go_simp) (by first | (go_simp; done) | (go_simp; rw [IntWalk.u32_in _ (by omega)]) | (go_simp; rw [IntWalk.i64_in _ (by omega)]) | (go_simp; rw [IntWalk.u8_in _ (by omega)]) | (go_simp; rw [IntKind.wrap_u32]; exact nv_add _ _)) rfl
      · exact Free.d_bin rfl (Free.tr 11 hd) (show _ = (.int .u32 256 : Value) from rfl) (by go_simp) (by first | (go_simp; done) | (go_simp; rw [IntWalk.u32_in _ (by omega)]) | (go_simp; rw [IntWalk.i64_in _ (by omega)]) | (go_simp; rw [IntWalk.u8_in _ (by omega)]) | (go_simp; rw [IntKind.wrap_u32]; exact nv_add _ _)) rfl
      · exact Free.d_conv rfl (Free.tr 12 hd) (by first | (go_simp; done) | (go_simp; rw [IntWalk.u32_in _ (by omega)]) | (go_simp; rw [IntWalk.i64_in _ (by omega)]) | (go_simp; rw [IntWalk.u8_in _ (by omega)]) | (go_simp; rw [IntKind.wrap_u32]; exact nv_add _ _)) (Below.refl _ _) rfl
      · exact Free.dm
      · exact Free.dm
      · exact Free.d_indexAddr rfl (Free.tr 14 hd) (Free.tr 15 hd) (run_idx 161 Tryz.underlying161 (by kernel_rfl) _ _ _ _ _ _ (by omega) (by omega)) rfl
      · exact Free.d_load rfl (Free.tr 16 hd) (by have hcc := hq wq hC; go_simp) rfl
      · exact Free.d_bin rfl (Free.tr 17 hd) (show _ = (.int .u32 256 : Value) from rfl) (by go_simp) (by first | (go_simp; done) | (go_simp; rw [IntWalk.u32_in _ (by omega)]) | (go_simp; rw [IntWalk.i64_in _ (by omega)]) | (go_simp; rw [IntWalk.u8_in _ (by omega)]) | (go_simp; rw [IntKind.wrap_u32]; exact nv_add _ _)) rfl
      · exact Free.d_bin rfl (Free.tr 18 hd) (show _ = (.int .u32 256 : Value) from rfl) (by go_simp) (by first | (go_simp; done) | (go_simp; rw [IntWalk.u32_in _ (by omega)]) | (go_simp; rw [IntWalk.i64_in _ (by omega)]) | (go_simp; rw [IntWalk.u8_in _ (by omega)]) | (go_simp; rw [IntKind.wrap_u32]; exact nv_add _ _)) rfl
      · exact Free.d_conv rfl (Free.tr 19 hd) (by first | (go_simp; done) | (go_simp; rw [IntWalk.u32_in _ (by omega)]) | (go_simp; rw [IntWalk.i64_in _ (by omega)]) | (go_simp; rw [IntWalk.u8_in _ (by omega)]) | (go_simp; rw [IntKind.wrap_u32]; exact nv_add _ _)) (Below.refl _ _) rfl
      · exact Free.dm
      · exact Free.dm
      · exact Free.d_indexAddr rfl (Free.tr 21 hd) (Free.tr 22 hd) (run_idx 161 Tryz.underlying161 (by kernel_rfl) _ _ _ _ _ _ (by omega) (by omega)) rfl
      · exact Free.d_load rfl (Free.tr 23 hd) (by have hcc := hq wq hC; go_simp) rfl
      · exact Free.d_bin rfl (Free.tr 24 hd) (show _ = (.int .u32 256 : Value) from rfl) (by go_simp) (by first | (go_simp; done) | (go_simp; rw [IntWalk.u32_in _ (by omega)]) | (go_simp; rw [IntWalk.i64_in _ (by omega)]) | (go_simp; rw [IntWalk.u8_in _ (by omega)]) | (go_simp; rw [IntKind.wrap_u32]; exact nv_add _ _)) rfl
      · exact Free.d_conv rfl (Free.tr 25 hd) (by first | (go_simp; done) | (go_simp; rw [IntWalk.u32_in _ (by omega)]) | (go_simp; rw [IntWalk.i64_in _ (by omega)]) | (go_simp; rw [IntWalk.u8_in _ (by omega)]) | (go_simp; rw [IntKind.wrap_u32]; exact nv_add _ _)) (Below.refl _ _) rfl
      · exact Free.d_build (w' := wq.alloc (.cells ([.int .u8 (nv x / 16777216), .int .u8 ((nv x / 65536) % 256), .int .u8 ((nv x / 256) % 256), .int .u8 (nv x % 256)] : List Value).toArray 5)) rfl (Free.parts4 (Free.tr 6 hd) (Free.tr 13 hd) (Free.tr 20 hd) (Free.tr 26 hd)) (by go_simp) ((Below.refl _ _).alloc (Nat.le_refl _) _) ⟨_, _, rfl, (rd_new wq [_, _, _, _] _ _).more (by unfold World.alloc; simp), Nat.le_refl _, by rw [maxLen_eq]; omega⟩
     ·
      intro vals wq hC hd
      refine Free.go hd ?_
      rintro _ rfl _ rfl _ rfl _ rfl _ rfl _ rfl _ rfl _ rfl _ rfl _ rfl _ rfl _ rfl _ rfl _ rfl _ rfl _ rfl _ rfl _ rfl _ rfl _ rfl _ rfl _ rfl _ rfl _ rfl _ rfl _ rfl _ rfl _ ⟨A27, k27, rfl, rd27, le27, mx27⟩
      simp only [Free.All, Free.fl, Act.put, Free.sa, Free.s0, Free.s1]
      clear hd
      have HOK := Lib.hid (own_keep HO.out hC (Nat.le_refl _))
      have HBQ := Lib.hid (HBZ.out.trans (hC.mono HBZ.out.size))
      refine wl_app rfl (.tmp 28) (.tmp 55) 28 rfl _ 5 1 1 bytesT _ u _ rfl HOK.out wq.heap.size A27 4 k27 _ rfl rd27 rfl (by simp [Value.oneCell']) (by rw [maxLen_eq]; omega) (by omega) HBQ.out.size ?_
      intro A3 c3 w3 hown3 hg3 hat3 hb3 hd3 hd3'
      have HO3 := Lib.hid hown3
      have HB3 := Lib.hid (HBQ.out.trans hb3)
      have HC3 := Lib.hid (And.intro hd3 hd3')
      clear hown3 hg3 hat3 hb3 hd3 hd3' hq
      go_wp2
      go_roundw
      case rel =>
       refine ⟨k + 1, u + 4, A3, c3, by omega, by go_num, by have := HU.out; omega, rfl, HC3.out.1, by have := HC3.out.2; rw [maxLen_eq] at this; exact this, ?_, HB3.out⟩
       rw [HTK.out, List.flatMap_append, List.flatMap_singleton]
       exact own_snocs HO3.out (wb_list x _ _ _ _ (by omega) (by omega) (by omega) (by omega))
      case measure => simp [intOf]; omega
    ·
     obtain rfl : k = 8 := by omega
     have hql : s.list.take 8 = s.list := rfl
     have hrd := Rd.of_own HO.out
     rw [hql] at hrd
     have hlen : (s.list.flatMap Sha.wordBytes).length = u := by have := HU.out; rw [this]; rfl
     have HRX := Lib.hid (And.intro hrd hlen)
     have hend : s.list.flatMap Sha.wordBytes = Sha.sum l := by
      rw [HSUM.out, HF.out]; rfl
     have HEND := Lib.hid hend
     have HBW := Lib.hid (HB2.out.trans (HB.out.mono HB2.out.size))
     have HBX := Lib.hid (HBW.out.trans (HBZ.out.mono HBW.out.size))
     clear hrd hql hend hlen
     go_wp2_with (first
      | (refine wl_str rfl 28 9 (.tmp 57) rfl 5 Tryz.underlying28 Tryz.underlying5 Tryz.underlying9 A6 u c6 rfl _ (s.list.flatMap Sha.wordBytes) HRX.out.1 HRX.out.2 ?_))
     go_ret
     exact ⟨by rw [← HEND.out]; rfl, HBX.out⟩
end Go.Proofs.YteoledjllpgcbaaGreatDoor
