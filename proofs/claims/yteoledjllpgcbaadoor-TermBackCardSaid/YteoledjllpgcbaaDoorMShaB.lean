/- MShaB: several texts of this claim in one file. No statement of the seat is proved here. -/
import Derived.Test.YteoledjllpgcbaaDoorMShaP
import Derived.Test.YteoledjllpgcbaaDoorMShaA
import Derived.Test.YteoledjllpgcbaaDoorMBase
import Derived.BigRegion
namespace Go.Proofs.YteoledjllpgcbaaDoor
set_option maxRecDepth 100000
set_option maxHeartbeats 64000000
set_option linter.unusedVariables false
open Go.RowKit
theorem one_bv' (l : List UInt8) : ∀ u ∈ l.map bv, u.oneCell' = true := fun u hu => by
 obtain ⟨x, _, rfl⟩ := List.mem_map.1 hu
 rfl
theorem str_get {l : List UInt8} {i : Nat} {b : UInt8} (h : l[i]? = some b) : (str l)[i]? = some b := by
 obtain ⟨hi, hb⟩ := List.getElem?_eq_some_iff.1 h
 have hs : i < (str l).size := by simpa [str, ByteArray.size] using hi
 rw [getElem?_pos (str l) i hs]
 congr 1
theorem run_idx_str {P : Program} {w : World} {T : TypeId} (l : List UInt8) (i : Nat) (b : UInt8) (h : l[i]? = some b) (hu : P.underlying T = some .string) : (Instr.index T (.string (str l)) (.int .i64 (i : Int))).run P w = .ok (.int .u8 (b.toNat : Int)) w := by
 obtain ⟨hi, hb⟩ := List.getElem?_eq_some_iff.1 h
 have h2 : (str l)[i]? = some b := by
  have hs : i < (str l).size := by simpa [str, ByteArray.size] using hi
  rw [getElem?_pos (str l) i hs]
  congr 1
 have hs : i < (str l).size := by simpa [str, ByteArray.size] using hi
 have h3 : (str l)[i] = b := by
  rw [getElem?_pos (str l) i hs] at h2
  injection h2
 rw [run_index_string w T (str l) .i64 (i : Int) hu]
 simp [hs, h3]
theorem str_size (l : List UInt8) : (str l).size = l.length := by simp [str, ByteArray.size]
theorem and15 (n : Nat) (h : n < 256) : bits .and .u8 (n : Int) 15 = (n : Int) % 16 := Bit.mask8 4 _ _ _ (by omega) (by omega) (by omega) (by decide) (by decide)
def ValPost (c : UInt8) (w : World) (e : Ending) (w' : World) : Prop := (∃ v : Nat, v = (Hex.val c).getD 0 ∧ e = .returned (.tuple #[.int .u8 (v : Int), .bool (Hex.val c).isSome])) ∧ w = w'
theorem val_mk {c : UInt8} {w : World} {o : Option Nat} (h : Hex.val c = o) {x : Int} {b : Bool} (hx : x = ((o.getD 0 : Nat) : Int)) (hb : b = o.isSome) : ValPost c w (.returned (.tuple #[.int .u8 x, .bool b])) w :=
 ⟨⟨_, rfl, by rw [h, hx, hb]⟩, rfl⟩
def HexPost (l : List UInt8) (w : World) (e : Ending) (w' : World) : Prop := e = .returned (sv (Hex.hex l)) ∧ Below w.heap.size w w'
def UnhexPost (s : List UInt8) (w : World) (e : Ending) (w' : World) : Prop :=
 (∃ l t : List UInt8, ∃ n : Int, (Hex.unhex s = some l ∧ t = l ∧ n = 0 ∨ Hex.unhex s = none ∧ t = [] ∧ n = 2) ∧ e = .returned (.tuple #[sv t, .int .i64 n])) ∧ Below w.heap.size w w'
theorem unhex_no {s : List UInt8} {w w' : World} (h : Hex.unhex s = none) (hb : Below w.heap.size w w') : UnhexPost s w (.returned (.tuple #[.string { data := #[] }, .int .i64 2])) w' :=
 ⟨⟨[], [], 2, .inr ⟨h, rfl, rfl⟩, rfl⟩, hb⟩
theorem unhex_yes {s l : List UInt8} {w w' : World} (h : Hex.unhex s = some l) (hb : Below w.heap.size w w') : UnhexPost s w (.returned (.tuple #[sv l, .int .i64 0])) w' :=
 ⟨⟨l, l, 0, .inl ⟨h, rfl, rfl⟩, rfl⟩, hb⟩
theorem unhex_step {s : List UInt8} {i : Nat} {a b : UInt8} (ha : s[i]? = some a) (hb : s[i + 1]? = some b) : Hex.unhex (s.drop i) = match Hex.val a, Hex.val b with
  | some x, some y => (Hex.unhex (s.drop (i + 2))).map (UInt8.ofNat (x * 16 + y) :: ·)
  | _, _ => none := by
 obtain ⟨h1, rfl⟩ := List.getElem?_eq_some_iff.1 ha
 obtain ⟨h2, rfl⟩ := List.getElem?_eq_some_iff.1 hb
 rw [List.drop_eq_getElem_cons h1, List.drop_eq_getElem_cons h2]
 rfl
theorem orShift (x y : Nat) (hx : x < 16) (hy : y < 16) : bits .or .u8 ((x : Int) * 16) (y : Int) = ((UInt8.ofNat (x * 16 + y)).toNat : Int) := by
 have key : ∀ x y : Fin 16, bits .or .u8 ((x.val : Int) * 16) (y.val : Int) = ((UInt8.ofNat (x.val * 16 + y.val)).toNat : Int) := by decide +kernel
 exact key ⟨x, hx⟩ ⟨y, hy⟩
abbrev RightPost (y : UInt32) (w : World) (e : Ending) (w' : World) : Prop := e = .returned (.int .u32 (nv y)) ∧ ∃ m, w' = w.drewN m
def uv (x : UInt32) : Value := .int .u32 (nv x)
def ConstPost (w : World) (e : Ending) (w' : World) : Prop :=
 ∃ g o, e = .returned (.slice (some ⟨g, o, none⟩) 64 64) ∧ g < w'.heap.size ∧ (∀ j, j < 64 → w'.cell? ⟨g, o + j, none⟩ = some (.int .u32 (nv (cst j)))) ∧ Below w.heap.size w w'
theorem const_mk {w : World} (cs : Array Value) (t : TypeId) (h : cs = (Sha.consts.map uv).toArray) : ConstPost w (.returned (.slice (some ⟨w.heap.size, 0, none⟩) 64 64)) (w.alloc (.cells cs t)) := by
 subst h
 refine ⟨w.heap.size, 0, rfl, by unfold World.alloc; simp, fun j hj => ?_, (Below.refl _ w).alloc (Nat.le_refl _) _⟩
 have h64 : Sha.consts.length = 64 := rfl
 have h1 : Sha.consts[j]? = some (cst j) := by
  unfold cst
  rw [List.getElem?_eq_getElem (by omega)]
  simp [List.getD, List.getElem?_eq_getElem (show j < Sha.consts.length by omega)]
 rw [Nat.zero_add]
 exact (row_new w _ _).cellQ j _ (by rw [List.getElem?_toArray, List.getElem?_map, h1]; rfl)
theorem word_sum (b0 b1 b2 b3 : UInt8) :
  ((((b0.toNat : Int) * (16777216 : Int) + (b1.toNat : Int) * (65536 : Int)) + (b2.toNat : Int) * (256 : Int)) + (b3.toNat : Int)) = nv ((b0.toUInt32 <<< 24) ||| (b1.toUInt32 <<< 16) ||| (b2.toUInt32 <<< 8) ||| b3.toUInt32) := by
 have h0 := b0.toNat_lt
 have h1 := b1.toNat_lt
 have h2 := b2.toNat_lt
 have h3 := b3.toNat_lt
 have a1 : b0.toNat * 16777216 ||| b1.toNat * 65536 = b0.toNat * 16777216 + b1.toNat * 65536 := by
  rw [show b0.toNat * 16777216 = 2 ^ 24 * b0.toNat by omega]
  exact (Nat.two_pow_add_eq_or_of_lt (by omega) _).symm
 have a2 : (b0.toNat * 16777216 + b1.toNat * 65536) ||| b2.toNat * 256 = b0.toNat * 16777216 + b1.toNat * 65536 + b2.toNat * 256 := by
  rw [show b0.toNat * 16777216 + b1.toNat * 65536 = 2 ^ 16 * (b0.toNat * 256 + b1.toNat) by omega]
  exact (Nat.two_pow_add_eq_or_of_lt (by omega) _).symm
 have a3 : (b0.toNat * 16777216 + b1.toNat * 65536 + b2.toNat * 256) ||| b3.toNat = b0.toNat * 16777216 + b1.toNat * 65536 + b2.toNat * 256 + b3.toNat := by
  rw [show b0.toNat * 16777216 + b1.toNat * 65536 + b2.toNat * 256 = 2 ^ 8 * (b0.toNat * 65536 + b1.toNat * 256 + b2.toNat) by omega]
  exact (Nat.two_pow_add_eq_or_of_lt (by omega) _).symm
 have s0 : (b0.toUInt32 <<< 24).toNat = b0.toNat * 16777216 := by
  rw [UInt32.toNat_shiftLeft, UInt8.toNat_toUInt32, Nat.shiftLeft_eq]
  show b0.toNat * 2 ^ 24 % 2 ^ 32 = _
  omega
 have s1 : (b1.toUInt32 <<< 16).toNat = b1.toNat * 65536 := by
  rw [UInt32.toNat_shiftLeft, UInt8.toNat_toUInt32, Nat.shiftLeft_eq]
  show b1.toNat * 2 ^ 16 % 2 ^ 32 = _
  omega
 have s2 : (b2.toUInt32 <<< 8).toNat = b2.toNat * 256 := by
  rw [UInt32.toNat_shiftLeft, UInt8.toNat_toUInt32, Nat.shiftLeft_eq]
  show b2.toNat * 2 ^ 8 % 2 ^ 32 = _
  omega
 unfold nv
 rw [UInt32.toNat_or, UInt32.toNat_or, UInt32.toNat_or, s0, s1, s2, UInt8.toNat_toUInt32, a1, a2, a3]
 omega
def swl (l : List UInt8) (k : Nat) : List Value := (List.range k).map fun j => uv (sw l j)
def SchedPost (l : List UInt8) (w : World) (e : Ending) (w' : World) : Prop :=
 ∃ A c, e = .returned (.slice A 64 c) ∧ Rd w' w'.heap.size A (swl l 64) ∧ Below w.heap.size w w'
theorem swl_succ (l : List UInt8) (k : Nat) : swl l (k + 1) = swl l k ++ [uv (sw l k)] := by
 unfold swl; rw [List.range_succ, List.map_append]; rfl
theorem grow_drewN {w w' : World} (h : ∃ m, w' = w.drewN m) : Below w.heap.size w w' := by
 obtain ⟨m, rfl⟩ := h
 have h := Below.refl w.heap.size w
 exact ⟨h.os, h.tape, h.output, h.size, h.block⟩
theorem swl_get (l : List UInt8) (k j : Nat) (h : j < k) : (swl l k)[j]? = some (.int .u32 (nv (sw l j))) := by
 unfold swl; simp [h]; rfl
attribute [local go_sem] nv_xor nv_add
theorem nv_compl2 (x : UInt32) : bits .xor .u32 4294967295 (nv x) = nv (~~~x) := nv_compl x
def RBlockPost (s : Sha.St) (l : List UInt8) (w : World) (e : Ending) (w' : World) : Prop :=
 ∃ A c, e = .returned (.slice A 8 c) ∧ Rd w' w'.heap.size A ((Sha.block s l).list.map uv) ∧ 8 ≤ c ∧ c ≤ maxLen ∧ Below w.heap.size w w'
theorem rblock_mk {w wr : World} {s t : Sha.St} {l : List UInt8} (cs : Array Value) (ty : TypeId) (h : Below w.heap.size w wr) (hc : cs = (t.list.map uv).toArray) (ht : Sha.block s l = t) :
  RBlockPost s l w (.returned (.slice (some ⟨wr.heap.size, 0, none⟩) 8 8)) (wr.alloc (.cells cs ty)) := by
 subst hc; subst ht
 exact ⟨_, _, rfl, (rd_new wr _ _ _).more (by unfold World.alloc; simp), by omega, by rw [maxLen_eq]; omega, h.alloc h.size _⟩
attribute [local go_sem] nv_xor nv_and nv_add nv_compl2
theorem zeros_lt2 (n j : Nat) (hj : j ≤ Sha.zeros n) (h2 : ¬ ((n + 1 + j : Nat) : Int) % 64 = 56) : j + 1 ≤ Sha.zeros n := by
 unfold Sha.zeros at *; omega
theorem zeros_eq2 (n j : Nat) (hj : j ≤ Sha.zeros n) (h2 : ((n + 1 + j : Nat) : Int) % 64 = 56) : j = Sha.zeros n := by
 unfold Sha.zeros at *; omega
theorem lenBytes_drop (N k : Nat) (h : k < 8) : (Sha.lenBytes N).drop (8 - (k + 1)) = UInt8.ofNat (N * 8 / 2 ^ (8 * k) % 256) :: (Sha.lenBytes N).drop (8 - k) := by
 have hl : (Sha.lenBytes N).length = 8 := rfl
 rw [List.drop_eq_getElem_cons (by rw [hl]; omega)]
 congr 1
 ·
  simp only [Sha.lenBytes, List.getElem_map, List.getElem_range]
  rw [show 56 - 8 * (8 - (k + 1)) = 8 * k by omega]
 · rw [show 8 - (k + 1) + 1 = 8 - k by omega]
theorem div_step (N k : Nat) : N / 2 ^ (8 * k) / 256 = N / 2 ^ (8 * (k + 1)) := by
 rw [Nat.div_div_eq_div_mul, show (256 : Nat) = 2 ^ 8 from rfl, ← Nat.pow_add]
 rfl
theorem one_bv (l : List UInt8) : ∀ u ∈ l.map bv, u.oneCell' = true := fun u hu => by
 obtain ⟨x, _, rfl⟩ := List.mem_map.1 hu
 rfl
def PadPost (l : List UInt8) (w : World) (e : Ending) (w' : World) : Prop :=
 ∃ A c, e = .returned (.slice A (Sha.tail l l.length).length c) ∧ Rd w' w'.heap.size A ((Sha.tail l l.length).map bv) ∧ (Sha.tail l l.length).length ≤ c ∧ c ≤ maxLen ∧ Below w.heap.size w w'
theorem tail_len (l : List UInt8) (n : Nat) : (Sha.tail l n).length % 64 = 0 := by
 have h : (Sha.lenBytes n).length = 8 := rfl
 unfold Sha.tail
 simp only [List.length_append, List.length_cons, List.length_nil, List.length_replicate, h]
 unfold Sha.zeros
 omega
theorem tail_le (l : List UInt8) (n : Nat) : (Sha.tail l n).length ≤ l.length + 128 := by
 have h : (Sha.lenBytes n).length = 8 := rfl
 unfold Sha.tail
 simp only [List.length_append, List.length_cons, List.length_nil, List.length_replicate, h]
 unfold Sha.zeros
 omega
theorem sum_pad (l : List UInt8) : Sha.sum l = (Sha.proc Sha.begin_ (Sha.tail l l.length)).1.bytes := by
 have h : Sha.zeros (Sha.proc Sha.begin_ l).2.length = Sha.zeros l.length := by
  rw [Sha.proc_rest]; unfold Sha.zeros; rw [Nat.mod_mod]
 have key : ∀ (r : List UInt8) (n : Nat), Sha.tail r n = r ++ ([0x80] ++ List.replicate (Sha.zeros r.length) 0 ++ Sha.lenBytes n) := fun r n => by
  unfold Sha.tail; simp only [List.append_assoc]
 rw [Sha.sum, Sha.end_, key, h, key l, Sha.proc_append _ l Sha.begin_]
def RSumPost (l : List UInt8) (w : World) (e : Ending) (w' : World) : Prop := e = .returned (sv (Sha.sum l)) ∧ Below w.heap.size w w'
structure SRel (P : List UInt8) (s : Sha.St) (A : Option Addr) (w wr : World) : Prop where
 below : Below w.heap.size w wr
 rd : Rd wr wr.heap.size A (s.list.map uv)
theorem srel_start (w : World) (P : List UInt8) (cs : Array Value) (t : TypeId) (h : cs = (Sha.begin_.list.map uv).toArray) : SRel P Sha.begin_ (some ⟨w.heap.size, 0, none⟩) w (w.alloc (.cells cs t)) := by
 subst h
 exact ⟨(Below.refl _ w).alloc (Nat.le_refl _) _, (rd_new w _ _ _).more (by unfold World.alloc; simp)⟩
end Go.Proofs.YteoledjllpgcbaaDoor
