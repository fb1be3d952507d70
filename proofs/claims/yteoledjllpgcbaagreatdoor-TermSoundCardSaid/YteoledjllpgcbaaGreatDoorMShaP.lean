/- MShaP: several texts of this claim in one file. No statement of the seat is proved here. -/
import Derived.Test.YteoledjllpgcbaaGreatDoorMBase
namespace Go.Proofs.YteoledjllpgcbaaGreatDoor.Sha
set_option maxRecDepth 100000
set_option maxHeartbeats 64000000
set_option linter.unusedVariables false
def rotr (x : UInt32) (n : UInt32) : UInt32 := (x >>> n) ||| (x <<< (32 - n))
def ls0 (x : UInt32) : UInt32 := rotr x 7 ^^^ rotr x 18 ^^^ (x >>> 3)
def ls1 (x : UInt32) : UInt32 := rotr x 17 ^^^ rotr x 19 ^^^ (x >>> 10)
def bs0 (x : UInt32) : UInt32 := rotr x 2 ^^^ rotr x 13 ^^^ rotr x 22
def bs1 (x : UInt32) : UInt32 := rotr x 6 ^^^ rotr x 11 ^^^ rotr x 25
def chs (e f g : UInt32) : UInt32 := (e &&& f) ^^^ (~~~e &&& g)
def maj (a b c : UInt32) : UInt32 := (a &&& b) ^^^ (a &&& c) ^^^ (b &&& c)
def word (p : List UInt8) (i : Nat) : UInt32 :=
 ((p.getD (4 * i) 0).toUInt32 <<< 24) ||| ((p.getD (4 * i + 1) 0).toUInt32 <<< 16) ||| ((p.getD (4 * i + 2) 0).toUInt32 <<< 8) ||| (p.getD (4 * i + 3) 0).toUInt32
def nextW (p : List UInt8) (l : List UInt32) (k : Nat) : UInt32 :=
 if k < 16 then word p k else l.getD (k - 16) 0 + ls0 (l.getD (k - 15) 0) + l.getD (k - 7) 0 + ls1 (l.getD (k - 2) 0)
def sched (p : List UInt8) : Nat → List UInt32
 | 0 => []
 | k + 1 => sched p k ++ [nextW p (sched p k) k]
def consts : List UInt32 := [
 0x428a2f98, 0x71374491, 0xb5c0fbcf, 0xe9b5dba5, 0x3956c25b, 0x59f111f1, 0x923f82a4, 0xab1c5ed5,
 0xd807aa98, 0x12835b01, 0x243185be, 0x550c7dc3, 0x72be5d74, 0x80deb1fe, 0x9bdc06a7, 0xc19bf174,
 0xe49b69c1, 0xefbe4786, 0x0fc19dc6, 0x240ca1cc, 0x2de92c6f, 0x4a7484aa, 0x5cb0a9dc, 0x76f988da,
 0x983e5152, 0xa831c66d, 0xb00327c8, 0xbf597fc7, 0xc6e00bf3, 0xd5a79147, 0x06ca6351, 0x14292967,
 0x27b70a85, 0x2e1b2138, 0x4d2c6dfc, 0x53380d13, 0x650a7354, 0x766a0abb, 0x81c2c92e, 0x92722c85,
 0xa2bfe8a1, 0xa81a664b, 0xc24b8b70, 0xc76c51a3, 0xd192e819, 0xd6990624, 0xf40e3585, 0x106aa070,
 0x19a4c116, 0x1e376c08, 0x2748774c, 0x34b0bcb5, 0x391c0cb3, 0x4ed8aa4a, 0x5b9cca4f, 0x682e6ff3,
 0x748f82ee, 0x78a5636f, 0x84c87814, 0x8cc70208, 0x90befffa, 0xa4506ceb, 0xbef9a3f7, 0xc67178f2]
structure St where
 a : UInt32
 b : UInt32
 c : UInt32
 d : UInt32
 e : UInt32
 f : UInt32
 g : UInt32
 h : UInt32
def St.list (s : St) : List UInt32 := [s.a, s.b, s.c, s.d, s.e, s.f, s.g, s.h]
def begin_ : St := ⟨0x6a09e667, 0xbb67ae85, 0x3c6ef372, 0xa54ff53a, 0x510e527f, 0x9b05688c, 0x1f83d9ab, 0x5be0cd19⟩
def round (s : St) (k w : UInt32) : St :=
 let t1 := s.h + bs1 s.e + chs s.e s.f s.g + k + w
 let t2 := bs0 s.a + maj s.a s.b s.c
 ⟨t1 + t2, s.a, s.b, s.c, s.d + t1, s.e, s.f, s.g⟩
def rounds (ws : List UInt32) (s : St) : Nat → St
 | 0 => s
 | k + 1 => round (rounds ws s k) (consts.getD k 0) (ws.getD k 0)
def St.add (s t : St) : St := ⟨s.a + t.a, s.b + t.b, s.c + t.c, s.d + t.d, s.e + t.e, s.f + t.f, s.g + t.g, s.h + t.h⟩
def block (s : St) (p : List UInt8) : St := s.add (rounds (sched p 64) s 64)
def procN : Nat → St → List UInt8 → St × List UInt8
 | 0, s, l => (s, l)
 | n + 1, s, l => if l.length < 64 then (s, l) else procN n (block s (l.take 64)) (l.drop 64)
def proc (s : St) (l : List UInt8) : St × List UInt8 := procN l.length s l
def zeros (n : Nat) : Nat := (119 - n % 64) % 64
def lenBytes (n : Nat) : List UInt8 := (List.range 8).map fun i => UInt8.ofNat (n * 8 / 2 ^ (56 - 8 * i) % 256)
def tail (rest : List UInt8) (n : Nat) : List UInt8 := rest ++ [0x80] ++ List.replicate (zeros rest.length) 0 ++ lenBytes n
def wordBytes (x : UInt32) : List UInt8 := [(x >>> 24).toUInt8, (x >>> 16).toUInt8, (x >>> 8).toUInt8, x.toUInt8]
def St.bytes (s : St) : List UInt8 := s.list.flatMap wordBytes
def end_ (s : St) (rest : List UInt8) (n : Nat) : List UInt8 := (proc s (tail rest n)).1.bytes
def sum (l : List UInt8) : List UInt8 := end_ (proc begin_ l).1 (proc begin_ l).2 l.length
theorem sum_length (l : List UInt8) : (sum l).length = 32 := rfl
theorem sched_length (p : List UInt8) : ∀ k, (sched p k).length = k
 | 0 => rfl
 | k + 1 => by simp [sched, sched_length p k]
theorem sched_take (p : List UInt8) (k : Nat) : ∀ n, k ≤ n → (sched p n).take k = sched p k
 | 0, h => by
  have : k = 0 := by omega
  subst this; rfl
 | n + 1, h => by
  by_cases hk : k = n + 1
  · subst hk; rw [List.take_of_length_le (by rw [sched_length]; exact Nat.le_refl _)]
  ·
   show (sched p n ++ [_]).take k = _
   rw [List.take_append_of_le_length (by rw [sched_length]; omega)]
   exact sched_take p k n (by omega)
theorem sched_get (p : List UInt8) (k n : Nat) (h : k < n) : (sched p n).getD k 0 = nextW p (sched p k) k := by
 have h1 := sched_take p (k + 1) n h
 have h2 : (sched p n)[k]? = (sched p (k + 1))[k]? := by
  rw [← h1, List.getElem?_take, if_pos (by omega)]
 rw [List.getD, h2]
 simp [sched, sched_length]
theorem procN_more (l : List UInt8) : ∀ n s, l.length ≤ n → procN n s l = proc s l := by
 have key : ∀ (m : Nat) (l : List UInt8), l.length ≤ m → ∀ i j s, l.length ≤ i → l.length ≤ j → procN i s l = procN j s l := by
  intro m
  induction m with
  | zero =>
   intro l hl i j s _ _
   have h0 : l.length < 64 := by omega
   cases i <;> cases j <;> simp [procN, h0]
  | succ m ih =>
   intro l hl i j s hi hj
   by_cases h0 : l.length < 64
   · cases i <;> cases j <;> simp [procN, h0]
   ·
    obtain ⟨i, rfl⟩ : ∃ i', i = i' + 1 := ⟨i - 1, by omega⟩
    obtain ⟨j, rfl⟩ : ∃ j', j = j' + 1 := ⟨j - 1, by omega⟩
    simp only [procN, if_neg h0]
    exact ih _ (by rw [List.length_drop]; omega) _ _ _ (by rw [List.length_drop]; omega) (by rw [List.length_drop]; omega)
 intro n s h
 exact key l.length l (Nat.le_refl _) n l.length s h (Nat.le_refl _)
theorem proc_short (s : St) (l : List UInt8) (h : l.length < 64) : proc s l = (s, l) := by
 unfold proc
 cases hl : l.length with
 | zero => rfl
 | succ n => simp [procN, h]
theorem proc_step (s : St) (l : List UInt8) (h : 64 ≤ l.length) : proc s l = proc (block s (l.take 64)) (l.drop 64) := by
 have hp : procN l.length s l = proc s l := rfl
 obtain ⟨n, hn⟩ : ∃ n, l.length = n + 1 := ⟨l.length - 1, by omega⟩
 rw [hn] at hp
 rw [← hp]
 show (if l.length < 64 then (s, l) else procN n _ _) = _
 rw [if_neg (by omega)]
 exact procN_more _ _ _ (by rw [List.length_drop]; omega)
theorem proc_rest (l : List UInt8) : ∀ s, (proc s l).2.length = l.length % 64 := by
 have key : ∀ (n : Nat) (l : List UInt8), l.length ≤ n → ∀ s, (proc s l).2.length = l.length % 64 := by
  intro n
  induction n with
  | zero =>
   intro l hl s
   rw [proc_short s l (by omega)]
   show l.length = _
   omega
  | succ n ih =>
   intro l hl s
   by_cases h : l.length < 64
   ·
    rw [proc_short s l h]
    show l.length = _
    omega
   ·
    rw [proc_step s l (by omega), ih _ (by rw [List.length_drop]; omega), List.length_drop]
    omega
 exact key l.length l (Nat.le_refl _)
theorem proc_append (m : List UInt8) : ∀ (l : List UInt8) (s : St), proc s (l ++ m) = proc (proc s l).1 ((proc s l).2 ++ m) := by
 have key : ∀ (n : Nat) (l : List UInt8), l.length ≤ n → ∀ s, proc s (l ++ m) = proc (proc s l).1 ((proc s l).2 ++ m) := by
  intro n
  induction n with
  | zero =>
   intro l hl s
   rw [proc_short s l (by omega)]
  | succ n ih =>
   intro l hl s
   by_cases h : l.length < 64
   · rw [proc_short s l h]
   · rw [proc_step s (l ++ m) (by rw [List.length_append]; omega), List.take_append_of_le_length (by omega), List.drop_append_of_le_length (by omega), ih _ (by rw [List.length_drop]; omega), ← proc_step s l (by omega)]
 exact fun l => key l.length l (Nat.le_refl _)
end Go.Proofs.YteoledjllpgcbaaGreatDoor.Sha
namespace Go.Proofs.YteoledjllpgcbaaGreatDoor.Hex
set_option maxRecDepth 100000
set_option maxHeartbeats 64000000
set_option linter.unusedVariables false
def val (c : UInt8) : Option Nat := if 48 ≤ c.toNat ∧ c.toNat ≤ 57 then some (c.toNat - 48) else if 97 ≤ c.toNat ∧ c.toNat ≤ 102 then some (c.toNat - 87) else none
end Go.Proofs.YteoledjllpgcbaaGreatDoor.Hex
namespace Go.Proofs.YteoledjllpgcbaaGreatDoor
set_option maxRecDepth 100000
set_option maxHeartbeats 64000000
set_option linter.unusedVariables false
open Go.RowKit
def nv (x : UInt32) : Int := (x.toNat : Int)
theorem nv_lo (x : UInt32) : 0 ≤ nv x := by unfold nv; omega
theorem nv_hi (x : UInt32) : nv x < 4294967296 := by unfold nv; have := x.toNat_lt; omega
theorem nv_add (x y : UInt32) : (nv x + nv y) % 4294967296 = nv (x + y) := by
 unfold nv; rw [UInt32.toNat_add]; omega
theorem nv_xor (x y : UInt32) : bits .xor .u32 (nv x) (nv y) = nv (x ^^^ y) := by
 unfold nv; rw [u32_xor_nat _ _ x.toNat_lt y.toNat_lt, UInt32.toNat_xor]
theorem nv_and (x y : UInt32) : bits .and .u32 (nv x) (nv y) = nv (x &&& y) := by
 unfold nv; rw [u32_and_nat _ _ x.toNat_lt y.toNat_lt, UInt32.toNat_and]
theorem nv_or (x y : UInt32) : bits .or .u32 (nv x) (nv y) = nv (x ||| y) := by
 unfold nv; rw [u32_or_nat _ _ x.toNat_lt y.toNat_lt, UInt32.toNat_or]
theorem nv_shr (x : UInt32) (k : Nat) (hk : k < 32) (q : Int) (hq : q = 2 ^ k) : nv x / q = nv (x >>> UInt32.ofNat k) := by
 subst hq
 unfold nv
 rw [UInt32.toNat_shiftRight, UInt32.toNat_ofNat', Nat.shiftRight_eq_div_pow]
 rw [show k % 2 ^ 32 % 32 = k by omega]
 simp
theorem nv_shl (x : UInt32) (k : Nat) (hk : k < 32) (q : Int) (hq : q = 2 ^ k) : (nv x * q) % 4294967296 = nv (x <<< UInt32.ofNat k) := by
 subst hq
 unfold nv
 rw [UInt32.toNat_shiftLeft, UInt32.toNat_ofNat', Nat.shiftLeft_eq]
 rw [show k % 2 ^ 32 % 32 = k by omega]
 simp
theorem nv_u8 (b : UInt8) : (b.toNat : Int) = nv b.toUInt32 := by unfold nv; simp
theorem nv_mod (x : UInt32) : nv x % 4294967296 = nv x := by
 have := nv_lo x; have := nv_hi x; omega
theorem rot_bits (x y : UInt32) (k : Nat) (h1 : 0 < k) (h : k < 32) (hy : y = (x >>> UInt32.ofNat k) + (x <<< UInt32.ofNat (32 - k))) : y = (x >>> UInt32.ofNat k) ||| (x <<< UInt32.ofNat (32 - k)) := by
 subst hy
 apply UInt32.toNat_inj.mp
 have hx := x.toNat_lt
 rw [UInt32.toNat_add, UInt32.toNat_or, UInt32.toNat_shiftRight, UInt32.toNat_shiftLeft, UInt32.toNat_ofNat', UInt32.toNat_ofNat']
 rw [show k % 2 ^ 32 % 32 = k by omega, show (32 - k) % 2 ^ 32 % 32 = 32 - k by omega]
 have hlow : x.toNat >>> k < 2 ^ (32 - k) := by
  rw [Nat.shiftRight_eq_div_pow]
  apply Nat.div_lt_of_lt_mul
  rw [← Nat.pow_add, show k + (32 - k) = 32 by omega]
  exact hx
 have hmod : x.toNat <<< (32 - k) % 2 ^ 32 = 2 ^ (32 - k) * (x.toNat % 2 ^ k) := by
  rw [Nat.shiftLeft_eq, Nat.mul_comm, show (2:Nat) ^ 32 = 2 ^ (32 - k) * 2 ^ k by rw [← Nat.pow_add, show 32 - k + k = 32 by omega], Nat.mul_mod_mul_left]
 rw [hmod, Nat.or_comm, ← Nat.two_pow_add_eq_or_of_lt hlow, Nat.add_comm]
 apply Nat.mod_eq_of_lt
 have h2 : x.toNat % 2 ^ k < 2 ^ k := Nat.mod_lt _ (Nat.pow_pos (by omega))
 have h3 : 2 ^ (32 - k) * (x.toNat % 2 ^ k) + 2 ^ (32 - k) ≤ 2 ^ (32 - k) * 2 ^ k := by
  rw [← Nat.mul_succ]; exact Nat.mul_le_mul_left _ h2
 have h4 : (2:Nat) ^ (32 - k) * 2 ^ k = 2 ^ 32 := by rw [← Nat.pow_add, show 32 - k + k = 32 by omega]
 omega
theorem rot_7 (x : UInt32) (w : World) : Calls Tryz.prog 146 #[.int .u32 (nv x), .int .i64 (-7)] w fun e w' => e = .returned (.int .u32 (nv (Sha.rotr x 7))) ∧ w = w' := by
 have h0 := nv_lo x
 have h1 := nv_hi x
 have hw : bits .and .u64 (IntKind.u64.wrap (-7)) 31 = 25 := by decide
 have hb : bits .or .u32 (nv x * 33554432 % 4294967296) (nv x / 128) = nv (Sha.rotr x 7) := by
  rw [nv_shl x 25 (by decide) 33554432 (by decide), nv_shr x 7 (by decide) 128 (by decide), nv_or, UInt32.or_comm]; rfl
 go_enter Tryz.func146, Tryz.ntmps146
 go_wp2
 go_ret
 exact ⟨rfl, rfl⟩
theorem rot_18 (x : UInt32) (w : World) : Calls Tryz.prog 146 #[.int .u32 (nv x), .int .i64 (-18)] w fun e w' => e = .returned (.int .u32 (nv (Sha.rotr x 18))) ∧ w = w' := by
 have h0 := nv_lo x
 have h1 := nv_hi x
 have hw : bits .and .u64 (IntKind.u64.wrap (-18)) 31 = 14 := by decide
 have hb : bits .or .u32 (nv x * 16384 % 4294967296) (nv x / 262144) = nv (Sha.rotr x 18) := by
  rw [nv_shl x 14 (by decide) 16384 (by decide), nv_shr x 18 (by decide) 262144 (by decide), nv_or, UInt32.or_comm]; rfl
 go_enter Tryz.func146, Tryz.ntmps146
 go_wp2
 go_ret
 exact ⟨rfl, rfl⟩
theorem rot_17 (x : UInt32) (w : World) : Calls Tryz.prog 146 #[.int .u32 (nv x), .int .i64 (-17)] w fun e w' => e = .returned (.int .u32 (nv (Sha.rotr x 17))) ∧ w = w' := by
 have h0 := nv_lo x
 have h1 := nv_hi x
 have hw : bits .and .u64 (IntKind.u64.wrap (-17)) 31 = 15 := by decide
 have hb : bits .or .u32 (nv x * 32768 % 4294967296) (nv x / 131072) = nv (Sha.rotr x 17) := by
  rw [nv_shl x 15 (by decide) 32768 (by decide), nv_shr x 17 (by decide) 131072 (by decide), nv_or, UInt32.or_comm]; rfl
 go_enter Tryz.func146, Tryz.ntmps146
 go_wp2
 go_ret
 exact ⟨rfl, rfl⟩
theorem rot_19 (x : UInt32) (w : World) : Calls Tryz.prog 146 #[.int .u32 (nv x), .int .i64 (-19)] w fun e w' => e = .returned (.int .u32 (nv (Sha.rotr x 19))) ∧ w = w' := by
 have h0 := nv_lo x
 have h1 := nv_hi x
 have hw : bits .and .u64 (IntKind.u64.wrap (-19)) 31 = 13 := by decide
 have hb : bits .or .u32 (nv x * 8192 % 4294967296) (nv x / 524288) = nv (Sha.rotr x 19) := by
  rw [nv_shl x 13 (by decide) 8192 (by decide), nv_shr x 19 (by decide) 524288 (by decide), nv_or, UInt32.or_comm]; rfl
 go_enter Tryz.func146, Tryz.ntmps146
 go_wp2
 go_ret
 exact ⟨rfl, rfl⟩
theorem rot_6 (x : UInt32) (w : World) : Calls Tryz.prog 146 #[.int .u32 (nv x), .int .i64 (-6)] w fun e w' => e = .returned (.int .u32 (nv (Sha.rotr x 6))) ∧ w = w' := by
 have h0 := nv_lo x
 have h1 := nv_hi x
 have hw : bits .and .u64 (IntKind.u64.wrap (-6)) 31 = 26 := by decide
 have hb : bits .or .u32 (nv x * 67108864 % 4294967296) (nv x / 64) = nv (Sha.rotr x 6) := by
  rw [nv_shl x 26 (by decide) 67108864 (by decide), nv_shr x 6 (by decide) 64 (by decide), nv_or, UInt32.or_comm]; rfl
 go_enter Tryz.func146, Tryz.ntmps146
 go_wp2
 go_ret
 exact ⟨rfl, rfl⟩
theorem rot_11 (x : UInt32) (w : World) : Calls Tryz.prog 146 #[.int .u32 (nv x), .int .i64 (-11)] w fun e w' => e = .returned (.int .u32 (nv (Sha.rotr x 11))) ∧ w = w' := by
 have h0 := nv_lo x
 have h1 := nv_hi x
 have hw : bits .and .u64 (IntKind.u64.wrap (-11)) 31 = 21 := by decide
 have hb : bits .or .u32 (nv x * 2097152 % 4294967296) (nv x / 2048) = nv (Sha.rotr x 11) := by
  rw [nv_shl x 21 (by decide) 2097152 (by decide), nv_shr x 11 (by decide) 2048 (by decide), nv_or, UInt32.or_comm]; rfl
 go_enter Tryz.func146, Tryz.ntmps146
 go_wp2
 go_ret
 exact ⟨rfl, rfl⟩
theorem rot_25 (x : UInt32) (w : World) : Calls Tryz.prog 146 #[.int .u32 (nv x), .int .i64 (-25)] w fun e w' => e = .returned (.int .u32 (nv (Sha.rotr x 25))) ∧ w = w' := by
 have h0 := nv_lo x
 have h1 := nv_hi x
 have hw : bits .and .u64 (IntKind.u64.wrap (-25)) 31 = 7 := by decide
 have hb : bits .or .u32 (nv x * 128 % 4294967296) (nv x / 33554432) = nv (Sha.rotr x 25) := by
  rw [nv_shl x 7 (by decide) 128 (by decide), nv_shr x 25 (by decide) 33554432 (by decide), nv_or, UInt32.or_comm]; rfl
 go_enter Tryz.func146, Tryz.ntmps146
 go_wp2
 go_ret
 exact ⟨rfl, rfl⟩
theorem rot_2 (x : UInt32) (w : World) : Calls Tryz.prog 146 #[.int .u32 (nv x), .int .i64 (-2)] w fun e w' => e = .returned (.int .u32 (nv (Sha.rotr x 2))) ∧ w = w' := by
 have h0 := nv_lo x
 have h1 := nv_hi x
 have hw : bits .and .u64 (IntKind.u64.wrap (-2)) 31 = 30 := by decide
 have hb : bits .or .u32 (nv x * 1073741824 % 4294967296) (nv x / 4) = nv (Sha.rotr x 2) := by
  rw [nv_shl x 30 (by decide) 1073741824 (by decide), nv_shr x 2 (by decide) 4 (by decide), nv_or, UInt32.or_comm]; rfl
 go_enter Tryz.func146, Tryz.ntmps146
 go_wp2
 go_ret
 exact ⟨rfl, rfl⟩
theorem rot_13 (x : UInt32) (w : World) : Calls Tryz.prog 146 #[.int .u32 (nv x), .int .i64 (-13)] w fun e w' => e = .returned (.int .u32 (nv (Sha.rotr x 13))) ∧ w = w' := by
 have h0 := nv_lo x
 have h1 := nv_hi x
 have hw : bits .and .u64 (IntKind.u64.wrap (-13)) 31 = 19 := by decide
 have hb : bits .or .u32 (nv x * 524288 % 4294967296) (nv x / 8192) = nv (Sha.rotr x 13) := by
  rw [nv_shl x 19 (by decide) 524288 (by decide), nv_shr x 13 (by decide) 8192 (by decide), nv_or, UInt32.or_comm]; rfl
 go_enter Tryz.func146, Tryz.ntmps146
 go_wp2
 go_ret
 exact ⟨rfl, rfl⟩
theorem rot_22 (x : UInt32) (w : World) : Calls Tryz.prog 146 #[.int .u32 (nv x), .int .i64 (-22)] w fun e w' => e = .returned (.int .u32 (nv (Sha.rotr x 22))) ∧ w = w' := by
 have h0 := nv_lo x
 have h1 := nv_hi x
 have hw : bits .and .u64 (IntKind.u64.wrap (-22)) 31 = 10 := by decide
 have hb : bits .or .u32 (nv x * 1024 % 4294967296) (nv x / 4194304) = nv (Sha.rotr x 22) := by
  rw [nv_shl x 10 (by decide) 1024 (by decide), nv_shr x 22 (by decide) 4194304 (by decide), nv_or, UInt32.or_comm]; rfl
 go_enter Tryz.func146, Tryz.ntmps146
 go_wp2
 go_ret
 exact ⟨rfl, rfl⟩
end Go.Proofs.YteoledjllpgcbaaGreatDoor
