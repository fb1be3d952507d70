/- 32-bit words as values of the walk: a word x stands as 'nv x'; the walk's arithmetic folded back to words. -/
import Derived.Test.YtoiilhbjlfdfpaaDoorGen
import Derived.Test.YtoiilhbjlfdfpaaDoorBits
import Derived.Test.YtoiilhbjlfdfpaaDoorShaPlain
namespace Go.Proofs.YtoiilhbjlfdfpaaDoor
set_option linter.unusedVariables false
open Go.RowKit

/-- A word as a number; nothing is laid open. -/
def nv (x : UInt32) : Int := (x.toNat : Int)
theorem nv_lo (x : UInt32) : 0 ≤ nv x := by unfold nv; omega
theorem nv_hi (x : UInt32) : nv x < 4294967296 := by unfold nv; have := x.toNat_lt; omega
theorem nv_add (x y : UInt32) : (nv x + nv y) % 4294967296 = nv (x + y) := by
  unfold nv; rw [UInt32.toNat_add]; omega
theorem nv_xor (x y : UInt32) : bits .xor .u32 (nv x) (nv y) = nv (x ^^^ y) := by
  unfold nv; rw [u32_xor_nat _ _ x.toNat_lt y.toNat_lt, UInt32.toNat_xor]
theorem nv_and (x y : UInt32) : bits .and .u32 (nv x) (nv y) = nv (x &&& y) := by
  unfold nv; rw [u32_and_nat _ _ x.toNat_lt y.toNat_lt, UInt32.toNat_and]
theorem nv_or (x y : UInt32) : bits .or .u32 (nv x) (nv y) = nv (x ||| y) := by
  unfold nv; rw [u32_or_nat _ _ x.toNat_lt y.toNat_lt, UInt32.toNat_or]
theorem nv_shr (x : UInt32) (k : Nat) (hk : k < 32) (q : Int) (hq : q = 2 ^ k) : nv x / q = nv (x >>> UInt32.ofNat k) := by
  subst hq
  unfold nv
  rw [UInt32.toNat_shiftRight, UInt32.toNat_ofNat', Nat.shiftRight_eq_div_pow]
  rw [show k % 2 ^ 32 % 32 = k by omega]
  simp
theorem nv_shl (x : UInt32) (k : Nat) (hk : k < 32) (q : Int) (hq : q = 2 ^ k) : (nv x * q) % 4294967296 = nv (x <<< UInt32.ofNat k) := by
  subst hq
  unfold nv
  rw [UInt32.toNat_shiftLeft, UInt32.toNat_ofNat', Nat.shiftLeft_eq]
  rw [show k % 2 ^ 32 % 32 = k by omega]
  simp
theorem nv_inj (x y : UInt32) (h : nv x = nv y) : x = y := by
  unfold nv at h
  exact UInt32.toNat_inj.mp (by omega)
/-- A byte as a word. -/
theorem nv_u8 (b : UInt8) : (b.toNat : Int) = nv b.toUInt32 := by unfold nv; simp
theorem nv_mod (x : UInt32) : nv x % 4294967296 = nv x := by
  have := nv_lo x; have := nv_hi x; omega
/-- The complement, as the walk tells it. -/
theorem nv_not (x : UInt32) : (4294967295 - nv x) = nv (~~~x) := by
  unfold nv
  have h : (~~~x).toNat = 4294967295 - x.toNat := by
    simp
  have := x.toNat_lt
  omega
theorem rot_bits (x y : UInt32) (k : Nat) (h1 : 0 < k) (h : k < 32) (hy : y = (x >>> UInt32.ofNat k) + (x <<< UInt32.ofNat (32 - k))) : y = (x >>> UInt32.ofNat k) ||| (x <<< UInt32.ofNat (32 - k)) := by
  subst hy
  apply UInt32.toNat_inj.mp
  have hx := x.toNat_lt
  rw [UInt32.toNat_add, UInt32.toNat_or, UInt32.toNat_shiftRight, UInt32.toNat_shiftLeft, UInt32.toNat_ofNat', UInt32.toNat_ofNat']
  rw [show k % 2 ^ 32 % 32 = k by omega, show (32 - k) % 2 ^ 32 % 32 = 32 - k by omega]
  have hlow : x.toNat >>> k < 2 ^ (32 - k) := by
    rw [Nat.shiftRight_eq_div_pow]
    apply Nat.div_lt_of_lt_mul
    rw [← Nat.pow_add, show k + (32 - k) = 32 by omega]
    exact hx
  have hmod : x.toNat <<< (32 - k) % 2 ^ 32 = 2 ^ (32 - k) * (x.toNat % 2 ^ k) := by
    rw [Nat.shiftLeft_eq, Nat.mul_comm, show (2:Nat) ^ 32 = 2 ^ (32 - k) * 2 ^ k by rw [← Nat.pow_add, show 32 - k + k = 32 by omega], Nat.mul_mod_mul_left]
  rw [hmod, Nat.or_comm, ← Nat.two_pow_add_eq_or_of_lt hlow, Nat.add_comm]
  apply Nat.mod_eq_of_lt
  have h2 : x.toNat % 2 ^ k < 2 ^ k := Nat.mod_lt _ (Nat.pow_pos (by omega))
  have h3 : 2 ^ (32 - k) * (x.toNat % 2 ^ k) + 2 ^ (32 - k) ≤ 2 ^ (32 - k) * 2 ^ k := by
    rw [← Nat.mul_succ]; exact Nat.mul_le_mul_left _ h2
  have h4 : (2:Nat) ^ (32 - k) * 2 ^ k = 2 ^ 32 := by rw [← Nat.pow_add, show 32 - k + k = 32 by omega]
  omega

theorem rot_7 (x : UInt32) (w : World) : Calls Tryd.prog 76 #[.int .u32 (nv x), .int .i64 (-7)] w fun e w' => e = .returned (.int .u32 (nv (Sha.rotr x 7))) ∧ w = w' := by
  have h0 := nv_lo x
  have h1 := nv_hi x
  have hw : bits .and .u64 (IntKind.u64.wrap (-7)) 31 = 25 := by decide
  have hb : bits .or .u32 (nv x * 33554432 % 4294967296) (nv x / 128) = nv (Sha.rotr x 7) := by
    rw [nv_shl x 25 (by decide) 33554432 (by decide), nv_shr x 7 (by decide) 128 (by decide), nv_or, UInt32.or_comm]; rfl
  go_enter Tryd.func76, Tryd.ntmps76
  go_wp2
  go_ret
  exact ⟨rfl, rfl⟩

theorem rot_18 (x : UInt32) (w : World) : Calls Tryd.prog 76 #[.int .u32 (nv x), .int .i64 (-18)] w fun e w' => e = .returned (.int .u32 (nv (Sha.rotr x 18))) ∧ w = w' := by
  have h0 := nv_lo x
  have h1 := nv_hi x
  have hw : bits .and .u64 (IntKind.u64.wrap (-18)) 31 = 14 := by decide
  have hb : bits .or .u32 (nv x * 16384 % 4294967296) (nv x / 262144) = nv (Sha.rotr x 18) := by
    rw [nv_shl x 14 (by decide) 16384 (by decide), nv_shr x 18 (by decide) 262144 (by decide), nv_or, UInt32.or_comm]; rfl
  go_enter Tryd.func76, Tryd.ntmps76
  go_wp2
  go_ret
  exact ⟨rfl, rfl⟩

theorem rot_17 (x : UInt32) (w : World) : Calls Tryd.prog 76 #[.int .u32 (nv x), .int .i64 (-17)] w fun e w' => e = .returned (.int .u32 (nv (Sha.rotr x 17))) ∧ w = w' := by
  have h0 := nv_lo x
  have h1 := nv_hi x
  have hw : bits .and .u64 (IntKind.u64.wrap (-17)) 31 = 15 := by decide
  have hb : bits .or .u32 (nv x * 32768 % 4294967296) (nv x / 131072) = nv (Sha.rotr x 17) := by
    rw [nv_shl x 15 (by decide) 32768 (by decide), nv_shr x 17 (by decide) 131072 (by decide), nv_or, UInt32.or_comm]; rfl
  go_enter Tryd.func76, Tryd.ntmps76
  go_wp2
  go_ret
  exact ⟨rfl, rfl⟩

theorem rot_19 (x : UInt32) (w : World) : Calls Tryd.prog 76 #[.int .u32 (nv x), .int .i64 (-19)] w fun e w' => e = .returned (.int .u32 (nv (Sha.rotr x 19))) ∧ w = w' := by
  have h0 := nv_lo x
  have h1 := nv_hi x
  have hw : bits .and .u64 (IntKind.u64.wrap (-19)) 31 = 13 := by decide
  have hb : bits .or .u32 (nv x * 8192 % 4294967296) (nv x / 524288) = nv (Sha.rotr x 19) := by
    rw [nv_shl x 13 (by decide) 8192 (by decide), nv_shr x 19 (by decide) 524288 (by decide), nv_or, UInt32.or_comm]; rfl
  go_enter Tryd.func76, Tryd.ntmps76
  go_wp2
  go_ret
  exact ⟨rfl, rfl⟩

theorem rot_6 (x : UInt32) (w : World) : Calls Tryd.prog 76 #[.int .u32 (nv x), .int .i64 (-6)] w fun e w' => e = .returned (.int .u32 (nv (Sha.rotr x 6))) ∧ w = w' := by
  have h0 := nv_lo x
  have h1 := nv_hi x
  have hw : bits .and .u64 (IntKind.u64.wrap (-6)) 31 = 26 := by decide
  have hb : bits .or .u32 (nv x * 67108864 % 4294967296) (nv x / 64) = nv (Sha.rotr x 6) := by
    rw [nv_shl x 26 (by decide) 67108864 (by decide), nv_shr x 6 (by decide) 64 (by decide), nv_or, UInt32.or_comm]; rfl
  go_enter Tryd.func76, Tryd.ntmps76
  go_wp2
  go_ret
  exact ⟨rfl, rfl⟩

theorem rot_11 (x : UInt32) (w : World) : Calls Tryd.prog 76 #[.int .u32 (nv x), .int .i64 (-11)] w fun e w' => e = .returned (.int .u32 (nv (Sha.rotr x 11))) ∧ w = w' := by
  have h0 := nv_lo x
  have h1 := nv_hi x
  have hw : bits .and .u64 (IntKind.u64.wrap (-11)) 31 = 21 := by decide
  have hb : bits .or .u32 (nv x * 2097152 % 4294967296) (nv x / 2048) = nv (Sha.rotr x 11) := by
    rw [nv_shl x 21 (by decide) 2097152 (by decide), nv_shr x 11 (by decide) 2048 (by decide), nv_or, UInt32.or_comm]; rfl
  go_enter Tryd.func76, Tryd.ntmps76
  go_wp2
  go_ret
  exact ⟨rfl, rfl⟩

theorem rot_25 (x : UInt32) (w : World) : Calls Tryd.prog 76 #[.int .u32 (nv x), .int .i64 (-25)] w fun e w' => e = .returned (.int .u32 (nv (Sha.rotr x 25))) ∧ w = w' := by
  have h0 := nv_lo x
  have h1 := nv_hi x
  have hw : bits .and .u64 (IntKind.u64.wrap (-25)) 31 = 7 := by decide
  have hb : bits .or .u32 (nv x * 128 % 4294967296) (nv x / 33554432) = nv (Sha.rotr x 25) := by
    rw [nv_shl x 7 (by decide) 128 (by decide), nv_shr x 25 (by decide) 33554432 (by decide), nv_or, UInt32.or_comm]; rfl
  go_enter Tryd.func76, Tryd.ntmps76
  go_wp2
  go_ret
  exact ⟨rfl, rfl⟩

theorem rot_2 (x : UInt32) (w : World) : Calls Tryd.prog 76 #[.int .u32 (nv x), .int .i64 (-2)] w fun e w' => e = .returned (.int .u32 (nv (Sha.rotr x 2))) ∧ w = w' := by
  have h0 := nv_lo x
  have h1 := nv_hi x
  have hw : bits .and .u64 (IntKind.u64.wrap (-2)) 31 = 30 := by decide
  have hb : bits .or .u32 (nv x * 1073741824 % 4294967296) (nv x / 4) = nv (Sha.rotr x 2) := by
    rw [nv_shl x 30 (by decide) 1073741824 (by decide), nv_shr x 2 (by decide) 4 (by decide), nv_or, UInt32.or_comm]; rfl
  go_enter Tryd.func76, Tryd.ntmps76
  go_wp2
  go_ret
  exact ⟨rfl, rfl⟩

theorem rot_13 (x : UInt32) (w : World) : Calls Tryd.prog 76 #[.int .u32 (nv x), .int .i64 (-13)] w fun e w' => e = .returned (.int .u32 (nv (Sha.rotr x 13))) ∧ w = w' := by
  have h0 := nv_lo x
  have h1 := nv_hi x
  have hw : bits .and .u64 (IntKind.u64.wrap (-13)) 31 = 19 := by decide
  have hb : bits .or .u32 (nv x * 524288 % 4294967296) (nv x / 8192) = nv (Sha.rotr x 13) := by
    rw [nv_shl x 19 (by decide) 524288 (by decide), nv_shr x 13 (by decide) 8192 (by decide), nv_or, UInt32.or_comm]; rfl
  go_enter Tryd.func76, Tryd.ntmps76
  go_wp2
  go_ret
  exact ⟨rfl, rfl⟩

theorem rot_22 (x : UInt32) (w : World) : Calls Tryd.prog 76 #[.int .u32 (nv x), .int .i64 (-22)] w fun e w' => e = .returned (.int .u32 (nv (Sha.rotr x 22))) ∧ w = w' := by
  have h0 := nv_lo x
  have h1 := nv_hi x
  have hw : bits .and .u64 (IntKind.u64.wrap (-22)) 31 = 10 := by decide
  have hb : bits .or .u32 (nv x * 1024 % 4294967296) (nv x / 4194304) = nv (Sha.rotr x 22) := by
    rw [nv_shl x 10 (by decide) 1024 (by decide), nv_shr x 22 (by decide) 4194304 (by decide), nv_or, UInt32.or_comm]; rfl
  go_enter Tryd.func76, Tryd.ntmps76
  go_wp2
  go_ret
  exact ⟨rfl, rfl⟩

end Go.Proofs.YtoiilhbjlfdfpaaDoor
