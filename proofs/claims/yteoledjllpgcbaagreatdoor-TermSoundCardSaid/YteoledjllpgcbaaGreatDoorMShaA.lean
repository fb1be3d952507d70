/- MShaA: several texts of this claim in one file. No statement of the seat is proved here. -/
import Derived.Test.YteoledjllpgcbaaGreatDoorMShaP
import Derived.BigRegion
import Derived.Test.YteoledjllpgcbaaGreatDoorMBase
import Derived.Deep.RegionWith
import Derived.Deep.CutRange
import Derived.Deep.RegionLaw
namespace Go.Proofs.YteoledjllpgcbaaGreatDoor
set_option maxRecDepth 100000
set_option maxHeartbeats 64000000
set_option linter.unusedVariables false
open Go.RowKit
theorem info_u32 : (Tryz.prog.info? 144).map (fun i => (i.zero, i.size, i.bytes)) = some (some (.int .u32 0), 1, 4) := by kernel_rfl
def wc (l : List UInt32) : List Value := l.map fun x => .int .u32 (nv x)
abbrev av (s : Sha.St) : Value := .agg #[.int .u32 (nv s.a), .int .u32 (nv s.b), .int .u32 (nv s.c), .int .u32 (nv s.d), .int .u32 (nv s.e), .int .u32 (nv s.f), .int .u32 (nv s.g), .int .u32 (nv s.h)]
def BlockPost (s : Sha.St) (l : List UInt8) (w : World) (e : Ending) (w' : World) : Prop := e = .returned (av (Sha.block s l)) ∧ Below w.heap.size w w'
@[irreducible] def sw (l : List UInt8) (j : Nat) : UInt32 := (Sha.sched l 64).getD j 0
structure BRel (s : Sha.St) (l : List UInt8) (w : World) (k : Nat) (wr : World) : Prop where
 below : Below w.heap.size w wr
 size : w.heap.size + 3 ≤ wr.heap.size
 st0 : wr.cell? ⟨w.heap.size, 0, none⟩ = some (.int .u32 (nv s.a))
 st1 : wr.cell? ⟨w.heap.size, 1, none⟩ = some (.int .u32 (nv s.b))
 st2 : wr.cell? ⟨w.heap.size, 2, none⟩ = some (.int .u32 (nv s.c))
 st3 : wr.cell? ⟨w.heap.size, 3, none⟩ = some (.int .u32 (nv s.d))
 st4 : wr.cell? ⟨w.heap.size, 4, none⟩ = some (.int .u32 (nv s.e))
 st5 : wr.cell? ⟨w.heap.size, 5, none⟩ = some (.int .u32 (nv s.f))
 st6 : wr.cell? ⟨w.heap.size, 6, none⟩ = some (.int .u32 (nv s.g))
 st7 : wr.cell? ⟨w.heap.size, 7, none⟩ = some (.int .u32 (nv s.h))
 res : ∃ cs, wr.heap[w.heap.size + 1]? = some (.cells cs 145 (0, 0)) ∧ cs.size = 8
 room : ∀ j, j < 64 → ∃ v, wr.cell? ⟨w.heap.size + 1 + 1, j, none⟩ = some v
 frz : ∀ j, j < 64 → wr.frozen? ⟨w.heap.size + 1 + 1, j, none⟩ = false
 done : ∀ j, j < k → wr.cell? ⟨w.heap.size + 1 + 1, j, none⟩ = some (.int .u32 (nv (sw l j)))
theorem BRel.drew {s : Sha.St} {l : List UInt8} {w wr : World} {k : Nat} (h : BRel s l w k wr) : BRel s l w k wr.drew :=
 ⟨h.below.drew, h.size, h.st0, h.st1, h.st2, h.st3, h.st4, h.st5, h.st6, h.st7, h.res, h.room, h.frz, h.done⟩
theorem BRel.drewN {s : Sha.St} {l : List UInt8} {w wr : World} {k : Nat} (n : Nat) (h : BRel s l w k wr) : BRel s l w k (wr.drewN n) :=
 ⟨⟨h.below.os, h.below.tape, h.below.output, h.below.size, h.below.block⟩, h.size, h.st0, h.st1, h.st2, h.st3, h.st4, h.st5, h.st6, h.st7, h.res, h.room, h.frz, h.done⟩
theorem BRel.set {s : Sha.St} {l : List UInt8} {w wr : World} {k : Nat} (h : BRel s l w k wr) (hk : k < 64) (x : UInt32) (hx : x = sw l k) :
  BRel s l w (k + 1) (wr.setCell ⟨w.heap.size + 1 + 1, k, none⟩ (.int .u32 (nv x))) := by
 subst hx
 obtain ⟨v0, hv0⟩ := h.room k hk
 obtain ⟨u, hu⟩ : ∃ u, u = Value.int .u32 (nv (sw l k)) := ⟨_, rfl⟩
 rw [← hu]
 have far : ∀ (q : Nat) (v : Value), wr.cell? ⟨w.heap.size, q, none⟩ = some v → (wr.setCell ⟨w.heap.size + 1 + 1, k, none⟩ u).cell? ⟨w.heap.size, q, none⟩ = some v := fun q v hv => by
  rw [World.cell?_setCell_far _ _ _ _ (by show w.heap.size + 1 + 1 ≠ w.heap.size; omega)]
  exact hv
 refine ⟨h.below.setCell (by show w.heap.size ≤ w.heap.size + 1 + 1; omega) _, by rw [World.size_setCell]; exact h.size, far 0 _ h.st0, far 1 _ h.st1, far 2 _ h.st2, far 3 _ h.st3, far 4 _ h.st4, far 5 _ h.st5, far 6 _ h.st6, far 7 _ h.st7, ?_, ?_, ?_, ?_⟩
 ·
  obtain ⟨cs, h1, h2⟩ := h.res
  exact ⟨cs, (Below.heap_setCell _ _ _ _ (by show w.heap.size + 1 ≠ w.heap.size + 1 + 1; omega)).trans h1, h2⟩
 ·
  intro j hj
  obtain ⟨v, hv⟩ := h.room j hj
  by_cases e : j = k
  · subst e; exact ⟨_, World.cell?_setCell_same _ _ _ hv⟩
  · exact ⟨v, (World.cell?_setCell_other _ _ _ _ (fun e' => e (by injection e' with _ e'; exact e'.symm))).trans hv⟩
 ·
  intro j hj
  rw [World.frozen?_setCell]
  exact h.frz j hj
 ·
  intro j hj
  by_cases e : j = k
  · subst e; rw [← hu]; exact World.cell?_setCell_same _ _ _ hv0
  · exact (World.cell?_setCell_other _ _ _ _ (fun e' => e (by injection e' with _ e'; exact e'.symm))).trans (h.done j (by omega))
theorem word_bits (l : List UInt8) (b0 b1 b2 b3 : UInt8) (k : Nat) (hk : k < 16) (h0 : l[4 * k]? = some b0) (h1 : l[4 * k + 1]? = some b1) (h2 : l[4 * k + 2]? = some b2) (h3 : l[4 * k + 3]? = some b3) :
  (b0.toUInt32 <<< 24) ||| (b1.toUInt32 <<< 16) ||| (b2.toUInt32 <<< 8) ||| b3.toUInt32 = sw l k := by
 unfold sw
 rw [Sha.sched_get l k 64 (by omega), Sha.nextW, if_pos hk, Sha.word]
 simp only [List.getD, h0, h1, h2, h3, Option.getD_some]
theorem word_val (b0 b1 b2 b3 : UInt8) (x : UInt32) (h : (b0.toUInt32 <<< 24) ||| (b1.toUInt32 <<< 16) ||| (b2.toUInt32 <<< 8) ||| b3.toUInt32 = x) :
  bits .or .u32 (bits .or .u32 (bits .or .u32 (nv b0.toUInt32 % 4294967296 * 16777216 % 4294967296) (nv b1.toUInt32 % 4294967296 * 65536 % 4294967296)) (nv b2.toUInt32 % 4294967296 * 256 % 4294967296)) (nv b3.toUInt32 % 4294967296) = nv x := by
 rw [nv_mod, nv_mod, nv_mod, nv_mod, nv_shl b0.toUInt32 24 (by decide) 16777216 (by decide), nv_shl b1.toUInt32 16 (by decide) 65536 (by decide), nv_shl b2.toUInt32 8 (by decide) 256 (by decide), nv_or, nv_or, nv_or]
 exact congrArg nv h
theorem start_rel (s : Sha.St) (l : List UInt8) (w : World) : BRel s l w 0 (((w.alloc (.cells #[.int .u32 (nv s.a), .int .u32 (nv s.b), .int .u32 (nv s.c), .int .u32 (nv s.d), .int .u32 (nv s.e), .int .u32 (nv s.f), .int .u32 (nv s.g), .int .u32 (nv s.h)] 145)).alloc (.cells (Array.replicate 8 (.int .u32 0)) 145)).alloc (.cells (Array.replicate 64 (.int .u32 0)) 183)) := by
 generalize hA : (Obj.cells #[.int .u32 (nv s.a), .int .u32 (nv s.b), .int .u32 (nv s.c), .int .u32 (nv s.d), .int .u32 (nv s.e), .int .u32 (nv s.f), .int .u32 (nv s.g), .int .u32 (nv s.h)] 145) = OA
 have s1 : (w.alloc OA).heap.size = w.heap.size + 1 := by unfold World.alloc; simp
 obtain ⟨O2, h2⟩ : ∃ O, O = Obj.cells (Array.replicate 8 (.int .u32 0)) 145 := ⟨_, rfl⟩
 obtain ⟨O3, h3⟩ : ∃ O, O = Obj.cells (Array.replicate 64 (.int .u32 0)) 183 := ⟨_, rfl⟩
 rw [← h2, ← h3]
 have s2 : ((w.alloc OA).alloc O2).heap.size = w.heap.size + 1 + 1 := by unfold World.alloc; simp
 have s3 : (((w.alloc OA).alloc O2).alloc O3).heap.size = w.heap.size + 1 + 1 + 1 := by unfold World.alloc; simp
 have st : ∀ (q : Nat) (v : Value), (w.alloc OA).cell? ⟨w.heap.size, q, none⟩ = some v → (((w.alloc OA).alloc O2).alloc O3).cell? ⟨w.heap.size, q, none⟩ = some v := fun q v hv => by
  rw [World.cell?_alloc_lt _ _ _ (by rw [s2]; show w.heap.size < _; omega), World.cell?_alloc_lt _ _ _ (by rw [s1]; show w.heap.size < _; omega)]
  exact hv
 have wcell : ∀ j, j < 64 → (((w.alloc OA).alloc O2).alloc O3).cell? ⟨w.heap.size + 1 + 1, j, none⟩ = some (.int .u32 0) := fun j hj => by
  rw [h3, ← s2, World.cell?_alloc_new]
  simp [hj]
 have wfrz : ∀ j, j < 64 → (((w.alloc OA).alloc O2).alloc O3).frozen? ⟨w.heap.size + 1 + 1, j, none⟩ = false := fun j hj => by
  rw [h3, ← s2, World.frozen?_alloc_new]
 refine ⟨(((Below.refl _ w).alloc (Nat.le_refl _) _).alloc (by rw [s1]; omega) _).alloc (by rw [s2]; omega) _, by rw [s3]; omega, st 0 _ ?_, st 1 _ ?_, st 2 _ ?_, st 3 _ ?_, st 4 _ ?_, st 5 _ ?_, st 6 _ ?_, st 7 _ ?_, ⟨Array.replicate 8 (.int .u32 0), ?_, by simp⟩, fun j hj => ⟨_, wcell j hj⟩, wfrz, fun j hj => by omega⟩
 all_goals first
  | (rw [← hA, World.cell?_alloc_new]; rfl)
  | (rw [Below.heap_alloc _ _ _ (by rw [s2]; omega), h2, ← s1]; generalize w.alloc OA = w1; show (w1.heap.push _)[w1.heap.size]? = _; simp)
theorem nv_shr3 (x : UInt32) : nv x / (8 : Int) = nv (x >>> 3) := nv_shr x 3 (by decide) 8 (by decide)
theorem nv_shr10 (x : UInt32) : nv x / (1024 : Int) = nv (x >>> 10) := nv_shr x 10 (by decide) 1024 (by decide)
theorem sw_step (l : List UInt8) (k : Nat) (h0 : 16 ≤ k) (h1 : k < 64) : sw l k = sw l (k - 16) + Sha.ls0 (sw l (k - 15)) + sw l (k - 7) + Sha.ls1 (sw l (k - 2)) := by
 have e : ∀ j, j < k → sw l j = (Sha.sched l k).getD j 0 := fun j hj => by
  unfold sw
  rw [Sha.sched_get l j 64 (by omega), Sha.sched_get l j k hj]
 rw [e (k - 16) (by omega), e (k - 15) (by omega), e (k - 7) (by omega), e (k - 2) (by omega)]
 unfold sw
 rw [Sha.sched_get l k 64 h1, Sha.nextW, if_neg (by omega)]
theorem nv_compl (x : UInt32) : bits .xor .u32 IntKind.u32.max (nv x) = nv (~~~x) := by
 have h : IntKind.u32.max = nv 4294967295 := by decide
 rw [h, nv_xor, ← UInt32.neg_one_xor]
 rfl
theorem nv_add4 (a b c d : UInt32) : (nv a + nv b + nv c + nv d) % 4294967296 = nv (a + b + c + d) := by
 rw [← nv_add, ← nv_add, ← nv_add]; omega
theorem val_next (x0 x1 x2 x3 : UInt32) :
  (nv x0 + bits .xor .u32 (nv (Sha.rotr x1 7 ^^^ Sha.rotr x1 18)) (nv x1 / 8) + nv x2 + bits .xor .u32 (nv (Sha.rotr x3 17 ^^^ Sha.rotr x3 19)) (nv x3 / 1024)) % 4294967296 = nv (x0 + Sha.ls0 x1 + x2 + Sha.ls1 x3) := by
 rw [nv_shr3, nv_shr10, nv_xor, nv_xor, nv_add4]; rfl
@[irreducible] def cst (j : Nat) : UInt32 := Sha.consts.getD j 0
@[irreducible] def rs (s : Sha.St) (l : List UInt8) (k : Nat) : Sha.St := Sha.rounds (Sha.sched l 64) s k
theorem rs_zero (s : Sha.St) (l : List UInt8) : rs s l 0 = s := by unfold rs; rfl
theorem rs_succ (s : Sha.St) (l : List UInt8) (k : Nat) : rs s l (k + 1) = Sha.round (rs s l k) (cst k) (sw l k) := by unfold rs cst sw; rfl
theorem rs_all (s : Sha.St) (l : List UInt8) : Sha.block s l = s.add (rs s l 64) := by unfold rs Sha.block; rfl
def RoundsLie (w : World) : Prop := 3 < w.heap.size ∧ ∀ j, j < 64 → w.cell? ⟨3, j, none⟩ = some (.int .u32 (nv (cst j)))
attribute [local go_sem] nv_xor nv_and nv_or nv_add nv_compl
theorem block_any (s : Sha.St) (A : Option Addr) (c : Nat) (l : List UInt8) (hl : l.length = 64) (B : Nat) (w : World) (hr : Rd w B A (l.map bv)) (hB : B ≤ w.heap.size) (hk : RoundsLie w) :
  Calls Tryz.prog 142 #[av s, .slice A 64 c] w (BlockPost s l w) := by
 have hl0 : l.map bv ≠ [] := fun h => by
  have := congrArg List.length h
  simp [hl] at this
 obtain ⟨b, off, rfl, hb, hc⟩ := hr hl0
 have HC := Lib.hid hc
 have HK := Lib.hid hk
 clear hk
 clear hc hr
 go_enter Tryz.func142, Tryz.ntmps142
 go_wp2
 go_loopw [26] (fun i wr => ∃ k : Nat, k ≤ 16 ∧ i = .int .i64 k ∧ BRel s l w k wr) (fun i _ => 16 - (intOf i).toNat)
 case atStart => exact ⟨0, by omega, rfl, start_rel s l w⟩
 case round =>
  obtain ⟨k, hk16, rfl, h⟩ := hrel
  have HR := Lib.hid h
  by_cases hk : k < 16
  ·
   obtain ⟨b0, h0⟩ : ∃ x, l[4 * k]? = some x := ⟨_, List.getElem?_eq_getElem (by omega)⟩
   obtain ⟨b1, h1⟩ : ∃ x, l[4 * k + 1]? = some x := ⟨_, List.getElem?_eq_getElem (by omega)⟩
   obtain ⟨b2, h2⟩ : ∃ x, l[4 * k + 2]? = some x := ⟨_, List.getElem?_eq_getElem (by omega)⟩
   obtain ⟨b3, h3⟩ : ∃ x, l[4 * k + 3]? = some x := ⟨_, List.getElem?_eq_getElem (by omega)⟩
   have rdc : ∀ j x, l[j]? = some x → wr.cell? ⟨b, off + j, none⟩ = some (.int .u8 (nv x.toUInt32)) := fun j x hx => by
    rw [h.below.cell (p := ⟨b, off + j, none⟩) (by show b < _; omega), ← nv_u8]
    exact HC.out j _ (by rw [List.getElem?_map, hx]; rfl)
   have c0 := rdc _ _ h0
   have c1 := rdc _ _ h1
   have c2 := rdc _ _ h2
   have c3 := rdc _ _ h3
   obtain ⟨v4, c4⟩ := h.room k (by omega)
   have HW := Lib.hid (word_bits l b0 b1 b2 b3 k hk h0 h1 h2 h3)
   clear h h0 h1 h2 h3 rdc
   go_wp2_with fail
   have HV := Lib.hid (word_val b0 b1 b2 b3 _ HW.out)
   have f4 : wr.frozen? ⟨w.heap.size + 1 + 1, k, none⟩ = false := HR.out.frz k (by omega)
   go_region
   go_wp2
   go_roundw
   case rel => exact ⟨k + 1, by omega, by go_num, by rw [HV.out]; exact (HR.out.set (by omega) _ rfl).drew⟩
   case measure => simp [intOf]; omega
  ·
   have HR1 := Lib.hid (show BRel s l w 16 wr from (show k = 16 by omega) ▸ h)
   clear h HR
   go_wp2
   go_loopw [7] (fun i wr => ∃ k : Nat, 16 ≤ k ∧ k ≤ 64 ∧ i = .int .i64 k ∧ BRel s l w k wr) (fun i _ => 64 - (intOf i).toNat)
   case atStart => exact ⟨16, by omega, by omega, rfl, HR1.out⟩
   clear HR1
   case round =>
    obtain ⟨k, hk16, hk64, rfl, h⟩ := hrel
    have HR := Lib.hid h
    by_cases hk : k < 64
    ·
     obtain ⟨x0, e0⟩ : ∃ x, sw l (k - 16) = x := ⟨_, rfl⟩
     obtain ⟨x1, e1⟩ : ∃ x, sw l (k - 15) = x := ⟨_, rfl⟩
     obtain ⟨x2, e2⟩ : ∃ x, sw l (k - 7) = x := ⟨_, rfl⟩
     obtain ⟨x3, e3⟩ : ∃ x, sw l (k - 2) = x := ⟨_, rfl⟩
     have c0 := h.done (k - 16) (by omega)
     have c1 := h.done (k - 15) (by omega)
     have c2 := h.done (k - 7) (by omega)
     have c3 := h.done (k - 2) (by omega)
     rw [e0] at c0
     rw [e1] at c1
     rw [e2] at c2
     rw [e3] at c3
     have hs := sw_step l k hk16 hk
     rw [e0, e1, e2, e3] at hs
     have HS := Lib.hid hs
     obtain ⟨v4, c4⟩ := h.room k (by omega)
     have f4 := h.frz k (by omega)
     have t1 := nv_shr3 x1
     have t3 := nv_shr10 x3
     clear h e0 e1 e2 e3 hs
     go_wp2_with fail
     go_region
     go_wp2_with (first | (go_at_call 146; with_reducible refine (rot_7 _ _).mono ?_; rintro e w' ⟨rfl, rfl⟩) | (go_at_call 146; with_reducible refine (rot_18 _ _).mono ?_; rintro e w' ⟨rfl, rfl⟩) | (go_at_call 146; with_reducible refine (rot_17 _ _).mono ?_; rintro e w' ⟨rfl, rfl⟩) | (go_at_call 146; with_reducible refine (rot_19 _ _).mono ?_; rintro e w' ⟨rfl, rfl⟩))
     go_region
     go_wp2
     go_roundw
     case rel => exact ⟨k + 1, by omega, by omega, by go_num, by first | exact (HR.out.set (by omega) _ HS.out.symm).drew.drew | (rw [val_next]; exact (HR.out.set (by omega) _ HS.out.symm).drew.drew)⟩
     case measure => simp [intOf]; omega
    ·
     have HR2 := Lib.hid (show BRel s l w 64 wr from (show k = 64 by omega) ▸ h)
     have a0 := h.st0
     have a1 := h.st1
     have a2 := h.st2
     have a3 := h.st3
     have a4 := h.st4
     have a5 := h.st5
     have a6 := h.st6
     have a7 := h.st7
     clear h HR
     go_wp2_with fail
     go_quiet (fail)
     go_wp2_with fail
     go_quiet (fail)
     go_wp2_with fail
     generalize hwd : World.drewN (World.drewN wr _) _ = wd
     have HR3 := Lib.hid (show BRel s l w 64 wd from hwd ▸ (HR2.out.drewN _).drewN _)
     clear hwd HR2 a0 a1 a2 a3 a4 a5 a6 a7
     go_loopw [12, 13, 14, 15, 16, 17, 18, 19, 124] (fun v0 v1 v2 v3 v4 v5 v6 v7 i wr => ∃ (k : Nat) (r : Sha.St), k ≤ 64 ∧ i = .int .i64 k ∧ r = rs s l k ∧ v0 = .int .u32 (nv r.a) ∧ v1 = .int .u32 (nv r.b) ∧ v2 = .int .u32 (nv r.c) ∧ v3 = .int .u32 (nv r.d) ∧ v4 = .int .u32 (nv r.e) ∧ v5 = .int .u32 (nv r.f) ∧ v6 = .int .u32 (nv r.g) ∧ v7 = .int .u32 (nv r.h) ∧ BRel s l w 64 wr) (fun _ _ _ _ _ _ _ _ i _ => 64 - (intOf i).toNat)
     case atStart => exact ⟨0, s, by omega, rfl, (rs_zero s l).symm, rfl, rfl, rfl, rfl, rfl, rfl, rfl, rfl, HR3.out⟩
     clear HR3
     case round =>
      obtain ⟨k, ⟨a, b', c', d, e, f, g, h'⟩, hk64, rfl, hrs, rfl, rfl, rfl, rfl, rfl, rfl, rfl, rfl, h⟩ := hrel
      have HR := Lib.hid h
      have HRS := Lib.hid hrs
      by_cases hk : k < 64
      ·
       obtain ⟨x, ex⟩ : ∃ x, sw l k = x := ⟨_, rfl⟩
       obtain ⟨y, ey⟩ : ∃ y, cst k = y := ⟨_, rfl⟩
       have c0 := h.done k hk
       have c1 : wr.cell? ⟨3, k, none⟩ = some (.int .u32 (nv (cst k))) := (h.below.cell (p := ⟨3, k, none⟩) HK.out.1).trans (HK.out.2 k hk)
       rw [ex] at c0
       rw [ey] at c1
       have HX := Lib.hid ex
       have HY := Lib.hid ey
       clear h ex ey hrs
       have HB := Lib.hid hk
       go_wp2_with (first | (go_at_call 146; with_reducible refine (rot_6 _ _).mono ?_; rintro e w' ⟨rfl, rfl⟩) | (go_at_call 146; with_reducible refine (rot_11 _ _).mono ?_; rintro e w' ⟨rfl, rfl⟩) | (go_at_call 146; with_reducible refine (rot_25 _ _).mono ?_; rintro e w' ⟨rfl, rfl⟩))
       go_quiet (fail)
       go_wp2_with (first | (go_at_call 146; with_reducible refine (rot_2 _ _).mono ?_; rintro e w' ⟨rfl, rfl⟩) | (go_at_call 146; with_reducible refine (rot_13 _ _).mono ?_; rintro e w' ⟨rfl, rfl⟩) | (go_at_call 146; with_reducible refine (rot_22 _ _).mono ?_; rintro e w' ⟨rfl, rfl⟩))
       go_roundw
       case rel => exact ⟨k + 1, Sha.round ⟨a, b', c', d, e, f, g, h'⟩ y x, by omega, by go_num, by rw [rs_succ, ← HRS.out, HX.out, HY.out], by rw [nv_add]; rfl, rfl, rfl, rfl, by rw [nv_add]; rfl, rfl, rfl, rfl, HR.out.drewN _⟩
       case measure => simp [intOf]; omega
      ·
       have HF := Lib.hid (show Sha.St.mk a b' c' d e f g h' = rs s l 64 from (show k = 64 by omega) ▸ hrs)
       obtain ⟨cs, r1, r2⟩ := h.res
       have hbel := Lib.hid h.below
       have a0 := h.st0
       have a1 := h.st1
       have a2 := h.st2
       have a3 := h.st3
       have a4 := h.st4
       have a5 := h.st5
       have a6 := h.st6
       have a7 := h.st7
       clear h hrs
       have hcl : ∀ j, j < 8 → ∃ u, wr.cell? ⟨w.heap.size + 1, j, none⟩ = some u := fun j hj => ⟨cs[j]'(by omega), by simp [World.cell?, r1, show j < cs.size by omega]⟩
       have hfl : ∀ j, j < 8 → wr.frozen? ⟨w.heap.size + 1, j, none⟩ = false := fun j hj => by simp [World.frozen?, r1]
       obtain ⟨p0, y0⟩ := hcl 0 (by omega)
       obtain ⟨p1, y1⟩ := hcl 1 (by omega)
       obtain ⟨p2, y2⟩ := hcl 2 (by omega)
       obtain ⟨p3, y3⟩ := hcl 3 (by omega)
       obtain ⟨p4, y4⟩ := hcl 4 (by omega)
       obtain ⟨p5, y5⟩ := hcl 5 (by omega)
       obtain ⟨p6, y6⟩ := hcl 6 (by omega)
       obtain ⟨p7, y7⟩ := hcl 7 (by omega)
       have z0 := hfl 0 (by omega)
       have z1 := hfl 1 (by omega)
       have z2 := hfl 2 (by omega)
       have z3 := hfl 3 (by omega)
       have z4 := hfl 4 (by omega)
       have z5 := hfl 5 (by omega)
       have z6 := hfl 6 (by omega)
       have z7 := hfl 7 (by omega)
       clear r1 hcl hfl
       go_wp2
       refine bodyPost_ret (v := .agg #[.int .u32 (nv (s.a + a)), .int .u32 (nv (s.b + b')), .int .u32 (nv (s.c + c')), .int .u32 (nv (s.d + d)), .int .u32 (nv (s.e + e)), .int .u32 (nv (s.f + f)), .int .u32 (nv (s.g + g)), .int .u32 (nv (s.h + h'))]) (by simp [results, Tryz.results142, go_sem, y0, y1, y2, y3, y4, y5, y6, y7]) rfl ⟨?_, ?_⟩
       · rw [rs_all, ← HF.out]; rfl
       ·
        have g1 : w.heap.size ≤ w.heap.size + 1 := by omega
        exact ((((((((hbel.out.setCell g1 _).setCell g1 _).setCell g1 _).setCell g1 _).setCell g1 _).setCell g1 _).setCell g1 _).setCell g1 _)
def ac (s : Sha.St) : Array Value := #[.int .u32 (nv s.a), .int .u32 (nv s.b), .int .u32 (nv s.c), .int .u32 (nv s.d), .int .u32 (nv s.e), .int .u32 (nv s.f), .int .u32 (nv s.g), .int .u32 (nv s.h)]
def Box (w : World) (b : Nat) (cs : Array Value) : Prop := w.heap[b]? = some (.cells cs 145 (0, 0))
theorem Box.cell {w : World} {b : Nat} {cs : Array Value} (h : Box w b cs) (j : Nat) (hj : j < cs.size) : w.cell? ⟨b, j, none⟩ = some cs[j] := by
 unfold Box at h
 simp [World.cell?, h, hj]
structure Eight (w : World) (b : Nat) (s : Sha.St) : Prop where
 c0 : w.cell? ⟨b, 0, none⟩ = some (.int .u32 (nv s.a))
 c1 : w.cell? ⟨b, 1, none⟩ = some (.int .u32 (nv s.b))
 c2 : w.cell? ⟨b, 2, none⟩ = some (.int .u32 (nv s.c))
 c3 : w.cell? ⟨b, 3, none⟩ = some (.int .u32 (nv s.d))
 c4 : w.cell? ⟨b, 4, none⟩ = some (.int .u32 (nv s.e))
 c5 : w.cell? ⟨b, 5, none⟩ = some (.int .u32 (nv s.f))
 c6 : w.cell? ⟨b, 6, none⟩ = some (.int .u32 (nv s.g))
 c7 : w.cell? ⟨b, 7, none⟩ = some (.int .u32 (nv s.h))
theorem Box.eight {w : World} {b : Nat} {s : Sha.St} (h : Box w b (ac s)) : Eight w b s :=
 ⟨h.cell 0 (Nat.lt_of_sub_eq_succ rfl), h.cell 1 (Nat.lt_of_sub_eq_succ rfl), h.cell 2 (Nat.lt_of_sub_eq_succ rfl), h.cell 3 (Nat.lt_of_sub_eq_succ rfl), h.cell 4 (Nat.lt_of_sub_eq_succ rfl), h.cell 5 (Nat.lt_of_sub_eq_succ rfl), h.cell 6 (Nat.lt_of_sub_eq_succ rfl), h.cell 7 (Nat.lt_of_sub_eq_succ rfl)⟩
theorem Box.frozen {w : World} {b : Nat} {cs : Array Value} (h : Box w b cs) (j : Nat) : w.frozen? ⟨b, j, none⟩ = false := by
 unfold Box at h
 simp [World.frozen?, h]
theorem Box.lt {w : World} {b : Nat} {cs : Array Value} (h : Box w b cs) : b < w.heap.size := by
 rcases Nat.lt_or_ge b w.heap.size with hlt | hge
 · exact hlt
 ·
  unfold Box at h
  rw [Array.getElem?_eq_none hge] at h; cases h
theorem Box.below {w w' : World} {b B : Nat} {cs : Array Value} (h : Box w b cs) (hb : Below B w w') (hB : b < B) : Box w' b cs := by
 unfold Box at *
 rw [hb.block b hB]; exact h
theorem Box.set {w : World} {b : Nat} {cs : Array Value} (h : Box w b cs) (j : Nat) (u : Value) : Box (w.setCell ⟨b, j, none⟩ u) b (cs.setIfInBounds j u) := by
 unfold Box at *
 simp [World.setCell, Array.getElem?_modify, h]
theorem Box.far {w : World} {b : Nat} {cs : Array Value} (h : Box w b cs) (c j : Nat) (u : Value) (hc : b ≠ c) : Box (w.setCell ⟨c, j, none⟩ u) b cs := by
 unfold Box at *
 rw [Below.heap_setCell _ _ _ _ hc]; exact h
def set8 (w : World) (b : Nat) (u0 u1 u2 u3 u4 u5 u6 u7 : Value) : World :=
 ((((((((w.setCell ⟨b, 0, none⟩ u0).setCell ⟨b, 1, none⟩ u1).setCell ⟨b, 2, none⟩ u2).setCell ⟨b, 3, none⟩ u3).setCell ⟨b, 4, none⟩ u4).setCell ⟨b, 5, none⟩ u5).setCell ⟨b, 6, none⟩ u6).setCell ⟨b, 7, none⟩ u7)
theorem Box.set8 {w : World} {b : Nat} {cs : Array Value} (h : Box w b cs) (hs : cs.size = 8) (u0 u1 u2 u3 u4 u5 u6 u7 : Value) : Box (set8 w b u0 u1 u2 u3 u4 u5 u6 u7) b #[u0, u1, u2, u3, u4, u5, u6, u7] := by
 have h8 := (((((((h.set 0 u0).set 1 u1).set 2 u2).set 3 u3).set 4 u4).set 5 u5).set 6 u6).set 7 u7
 have e : ((((((((cs.setIfInBounds 0 u0).setIfInBounds 1 u1).setIfInBounds 2 u2).setIfInBounds 3 u3).setIfInBounds 4 u4).setIfInBounds 5 u5).setIfInBounds 6 u6).setIfInBounds 7 u7) = #[u0, u1, u2, u3, u4, u5, u6, u7] := by
  obtain ⟨l⟩ := cs
  have hl : l.length = 8 := by simpa using hs
  clear h8 h hs
  match l, hl with
  | [a0, a1, a2, a3, a4, a5, a6, a7], _ => simp
 rw [e] at h8
 exact h8
theorem below_set8 {B : Nat} {v w : World} {b : Nat} (h : Below B v w) (hB : B ≤ b) (u0 u1 u2 u3 u4 u5 u6 u7 : Value) : Below B v (set8 w b u0 u1 u2 u3 u4 u5 u6 u7) :=
 ((((((((h.setCell hB _).setCell hB _).setCell hB _).setCell hB _).setCell hB _).setCell hB _).setCell hB _).setCell hB _)
theorem far_set8 {w : World} {b c : Nat} {cs : Array Value} (h : Box w b cs) (hc : b ≠ c) (u0 u1 u2 u3 u4 u5 u6 u7 : Value) : Box (set8 w c u0 u1 u2 u3 u4 u5 u6 u7) b cs :=
 ((((((((h.far _ _ _ hc).far _ _ _ hc).far _ _ _ hc).far _ _ _ hc).far _ _ _ hc).far _ _ _ hc).far _ _ _ hc).far _ _ _ hc)
theorem RoundsLie.below {w w' : World} {B : Nat} (h : RoundsLie w) (hb : Below B w w') (hB : w.heap.size ≤ B) : RoundsLie w' :=
 ⟨Nat.lt_of_lt_of_le h.1 hb.size, fun j hj => (hb.cell (p := ⟨3, j, none⟩) (Nat.lt_of_lt_of_le h.1 hB)).trans (h.2 j hj)⟩
structure PRel (s : Sha.St) (w wr : World) : Prop where
 below : Below w.heap.size w wr
 box : Box wr w.heap.size (ac s)
 res : ∃ cs, Box wr (w.heap.size + 1) cs ∧ cs.size = 8
theorem PRel.call {s : Sha.St} {w wr wz : World} (h : PRel s w wr) (hb : Below wr.heap.size wr wz) : PRel s w wz := by
 obtain ⟨cs, h1, h2⟩ := h.res
 exact ⟨h.below.trans (hb.mono h.below.size), h.box.below hb h.box.lt, cs, h1.below hb h1.lt, h2⟩
theorem PRel.store {s : Sha.St} {w wr : World} (h : PRel s w wr) (t : Sha.St) : PRel t w (set8 wr w.heap.size (.int .u32 (nv t.a)) (.int .u32 (nv t.b)) (.int .u32 (nv t.c)) (.int .u32 (nv t.d)) (.int .u32 (nv t.e)) (.int .u32 (nv t.f)) (.int .u32 (nv t.g)) (.int .u32 (nv t.h))) := by
 obtain ⟨cs, h1, h2⟩ := h.res
 exact ⟨below_set8 h.below (Nat.le_refl _) _ _ _ _ _ _ _ _, h.box.set8 rfl _ _ _ _ _ _ _ _, cs, far_set8 h1 (by omega) _ _ _ _ _ _ _ _, h2⟩
theorem PRel.drew {s : Sha.St} {w wr : World} (h : PRel s w wr) : PRel s w wr.drew := ⟨h.below.drew, h.box, h.res⟩
theorem prel_start (s : Sha.St) (w : World) : PRel s w ((w.alloc (.cells (ac s) 145)).alloc (.cells (Array.replicate 8 (.int .u32 0)) 145)) := by
 obtain ⟨O1, h1⟩ : ∃ O, O = Obj.cells (ac s) 145 := ⟨_, rfl⟩
 obtain ⟨O2, h2⟩ : ∃ O, O = Obj.cells (Array.replicate 8 (.int .u32 0)) 145 := ⟨_, rfl⟩
 rw [← h1, ← h2]
 have s1 : (w.alloc O1).heap.size = w.heap.size + 1 := by unfold World.alloc; simp
 refine ⟨((Below.refl _ w).alloc (Nat.le_refl _) _).alloc (by rw [s1]; omega) _, ?_, Array.replicate 8 (.int .u32 0), ?_, by simp⟩
 ·
  unfold Box
  rw [Below.heap_alloc _ _ _ (by rw [s1]; omega), h1]
  show (w.heap.push _)[w.heap.size]? = _
  simp
 ·
  unfold Box
  rw [← s1, h2]
  generalize w.alloc O1 = w1
  show (w1.heap.push _)[w1.heap.size]? = _
  simp
def ProcPost (s : Sha.St) (l : List UInt8) (w : World) (e : Ending) (w' : World) : Prop :=
 ∃ A c, e = .returned (.tuple #[av (Sha.proc s l).1, .slice A (Sha.proc s l).2.length c]) ∧ Rd w' w.heap.size A ((Sha.proc s l).2.map bv) ∧ (Sha.proc s l).2.length ≤ c ∧ c ≤ maxLen ∧ Below w.heap.size w w'
theorem process_any (s : Sha.St) (A : Option Addr) (c : Nat) (l : List UInt8) (n : Nat) (hn : l.length = n) (hc : n ≤ c) (hm : c ≤ maxLen) (w : World) (hr : Rd w w.heap.size A (l.map bv)) (hk : RoundsLie w) :
  Calls Tryz.prog 134 #[av s, .slice A n c] w (ProcPost s l w) := by
 rw [maxLen_eq] at hm
 have HK := Lib.hid hk
 have H0 := Lib.hid hr
 have HN := Lib.hid hn
 clear hk hr hn
 go_enter Tryz.func134, Tryz.ntmps134
 go_wp2
 go_loopw [1] (fun v wr => ∃ (A' : Option Addr) (n' c' : Nat) (s' : Sha.St) (l' : List UInt8), v = .slice A' n' c' ∧ l'.length = n' ∧ n' ≤ c' ∧ c' ≤ 9223372036854775807 ∧ Rd wr w.heap.size A' (l'.map bv) ∧ Sha.proc s l = Sha.proc s' l' ∧ PRel s' w wr) (fun v _ => match v with | .slice _ n _ => n | _ => 0)
 case atStart => exact ⟨A, n, c, s, l, rfl, HN.out, hc, hm, H0.out.below (prel_start s w).below, rfl, prel_start s w⟩
 case round =>
  obtain ⟨A', n', c', s', l', rfl, hn', hc', hm', hr', he, h⟩ := hrel
  have HE := Lib.hid he
  have HL := Lib.hid hn'
  clear he hn'
  by_cases h64 : 64 ≤ n'
  ·
   have h0 : l'.map bv ≠ [] := fun h => by
    have h2 : l' = [] := by simpa using h
    have h3 := HL.out
    rw [h2] at h3
    simp at h3; omega
   obtain ⟨b, off, rfl, hb, hcell⟩ := hr' h0
   have HR := Lib.hid hr'
   have HP := Lib.hid h
   obtain ⟨y0, y1, y2, y3, y4, y5, y6, y7⟩ := h.box.eight
   have hBs := h.below.size
   have hblk : ∀ (c'' : Nat) (wz : World), Rd wz w.heap.size (some ⟨b, off, none⟩) (l'.map bv) → w.heap.size ≤ wz.heap.size → RoundsLie wz → Calls Tryz.prog 142 #[av s', .slice (some ⟨b, off, none⟩) 64 c''] wz (BlockPost s' (l'.take 64) wz) := fun c'' wz g1 g2 g3 =>
    block_any s' _ c'' (l'.take 64) (by rw [List.length_take, HL.out]; omega) w.heap.size wz (by rw [List.map_take]; exact g1.take 64) g2 g3
   clear h hr' hcell h0
   go_wp2_with fail
   go_region_with (go_at_call 142; (with_reducible refine (hblk _ wr.drew HR.out.drew HP.out.drew.below.size (HK.out.below HP.out.drew.below (Nat.le_refl _))).mono ?_); rintro e w' ⟨rfl, hb'⟩; have HB := Lib.hid (bdrew hb'); have HP2 := Lib.hid (HP.out.call HB.out); obtain ⟨z0, z1, z2, z3, z4, z5, z6, z7⟩ := HP2.out.box.eight; have f0 := HP2.out.box.frozen 0; have f1 := HP2.out.box.frozen 1; have f2 := HP2.out.box.frozen 2; have f3 := HP2.out.box.frozen 3; have f4 := HP2.out.box.frozen 4; have f5 := HP2.out.box.frozen 5; have f6 := HP2.out.box.frozen 6; have f7 := HP2.out.box.frozen 7; obtain ⟨t, ht⟩ : ∃ t, Sha.block s' (l'.take 64) = t := ⟨_, rfl⟩; have HT := Lib.hid ht; rw [ht]; clear hblk hb' ht y0 y1 y2 y3 y4 y5 y6 y7 hb)
   all_goals
    generalize hwd : World.setCell (World.setCell (World.setCell (World.setCell (World.setCell (World.setCell (World.setCell (World.setCell w' _ _) _ _) _ _) _ _) _ _) _ _) _ _) _ _ = wd
    have HP3 := Lib.hid (show PRel t w wd from hwd ▸ HP2.out.store t)
    have hrd2 : Rd wd w.heap.size (some ⟨b, off, none⟩) (l'.map bv) := HR.out.keep fun p hp => (HP3.out.below.cell hp).trans (HP.out.below.cell hp).symm
    have HR2 := Lib.hid hrd2
    clear hwd hrd2 z0 z1 z2 z3 z4 z5 z6 z7 f0 f1 f2 f3 f4 f5 f6 f7
    go_wp2_with (first
     | (refine wl_cut_lo rfl 28 (.tmp 13) _ rfl 5 Tryz.underlying28 size_u8 (some ⟨b, off, none⟩) n' c' rfl .i64 64 rfl (by omega) (by omega) hc' w.heap.size _ HR2.out (by simpa using HL.out) ?_; intro A2 hr2; have HR3 := Lib.hid hr2; clear hr2))
    go_roundw
    case rel =>
     have h3 := HR3.out
     rw [← List.map_drop] at h3
     exact ⟨A2, n' - 64, c' - 64, t, l'.drop 64, rfl, by rw [List.length_drop, HL.out], by omega, by omega, h3, by rw [HE.out, Sha.proc_step s' l' (by rw [HL.out]; omega), HT.out], HP3.out⟩
    case measure => simp; omega
  ·
   have hs := Sha.proc_short s' l' (by rw [HL.out]; omega)
   rw [← HE.out] at hs
   have HS := Lib.hid hs
   have HP := Lib.hid h
   have HR := Lib.hid hr'
   obtain ⟨y0, y1, y2, y3, y4, y5, y6, y7⟩ := h.box.eight
   obtain ⟨cs, r1, r2⟩ := h.res
   have q := fun j (hj : j < cs.size) => r1.cell j hj
   obtain ⟨p0, e0⟩ : ∃ u, wr.cell? ⟨w.heap.size + 1, 0, none⟩ = some u := ⟨_, q 0 (by omega)⟩
   obtain ⟨p1, e1⟩ : ∃ u, wr.cell? ⟨w.heap.size + 1, 1, none⟩ = some u := ⟨_, q 1 (by omega)⟩
   obtain ⟨p2, e2⟩ : ∃ u, wr.cell? ⟨w.heap.size + 1, 2, none⟩ = some u := ⟨_, q 2 (by omega)⟩
   obtain ⟨p3, e3⟩ : ∃ u, wr.cell? ⟨w.heap.size + 1, 3, none⟩ = some u := ⟨_, q 3 (by omega)⟩
   obtain ⟨p4, e4⟩ : ∃ u, wr.cell? ⟨w.heap.size + 1, 4, none⟩ = some u := ⟨_, q 4 (by omega)⟩
   obtain ⟨p5, e5⟩ : ∃ u, wr.cell? ⟨w.heap.size + 1, 5, none⟩ = some u := ⟨_, q 5 (by omega)⟩
   obtain ⟨p6, e6⟩ : ∃ u, wr.cell? ⟨w.heap.size + 1, 6, none⟩ = some u := ⟨_, q 6 (by omega)⟩
   obtain ⟨p7, e7⟩ : ∃ u, wr.cell? ⟨w.heap.size + 1, 7, none⟩ = some u := ⟨_, q 7 (by omega)⟩
   have f0 := r1.frozen 0
   have f1 := r1.frozen 1
   have f2 := r1.frozen 2
   have f3 := r1.frozen 3
   have f4 := r1.frozen 4
   have f5 := r1.frozen 5
   have f6 := r1.frozen 6
   have f7 := r1.frozen 7
   clear h hr' hs q r1 r2
   go_wp2
   refine bodyPost_ret (v := .tuple #[av s', .slice A' n' c']) (by simp [results, Tryz.results134, go_sem, e0, e1, e2, e3, e4, e5, e6, e7]) rfl ?_
   have hb1 := below_set8 (b := w.heap.size + 1) HP.out.below (by omega) (.int .u32 (nv s'.a)) (.int .u32 (nv s'.b)) (.int .u32 (nv s'.c)) (.int .u32 (nv s'.d)) (.int .u32 (nv s'.e)) (.int .u32 (nv s'.f)) (.int .u32 (nv s'.g)) (.int .u32 (nv s'.h))
   refine ⟨A', c', by rw [HS.out]; simp [HL.out], ?_, by rw [HS.out]; simp [HL.out]; omega, by rw [maxLen_eq]; omega, hb1⟩
   rw [HS.out]
   exact HR.out.keep fun p hp => (hb1.cell hp).trans (HP.out.below.cell hp).symm
abbrev tv (s : Sha.St) (v : Value) (n : Int) : Value := .agg #[.int .u32 (nv s.a), .int .u32 (nv s.b), .int .u32 (nv s.c), .int .u32 (nv s.d), .int .u32 (nv s.e), .int .u32 (nv s.f), .int .u32 (nv s.g), .int .u32 (nv s.h), v, .int .i64 n]
def vld (N : Int) (n : Nat) : Bool := decide (0 ≤ N ∧ N ≤ 1099511627776 ∧ (n : Int) = N % 64)
def VldPost (N : Int) (n : Nat) (w : World) (e : Ending) (w' : World) : Prop := e = .returned (.bool (vld N n)) ∧ Below w.heap.size w w'
theorem vld_mk {N : Int} {n : Nat} {w w' : World} {b : Bool} (h : vld N n = b) (hb : Below w.heap.size w w') : VldPost N n w (.returned (.bool b)) w' := ⟨by rw [h], hb⟩
def BeginLies (w : World) : Prop := 0 < w.heap.size ∧ Eight w 0 Sha.begin_
theorem BeginLies.below {w w' : World} {B : Nat} (h : BeginLies w) (hb : Below B w w') (hB : w.heap.size ≤ B) : BeginLies w' := by
 have k := fun (j : Nat) => hb.cell (p := ⟨0, j, none⟩) (Nat.lt_of_lt_of_le h.1 hB)
 obtain ⟨h1, h2⟩ := h
 exact ⟨Nat.lt_of_lt_of_le h1 hb.size, (k 0).trans h2.c0, (k 1).trans h2.c1, (k 2).trans h2.c2, (k 3).trans h2.c3, (k 4).trans h2.c4, (k 5).trans h2.c5, (k 6).trans h2.c6, (k 7).trans h2.c7⟩
theorem valid_any (s : Sha.St) (A : Option Addr) (n c : Nat) (N : Int) (w : World) (hc : n ≤ c) (hm : c ≤ maxLen) : Calls Tryz.prog 133 #[tv s (.slice A n c) N] w (VldPost N n w) := by
 rw [maxLen_eq] at hm
 have fin : ∀ (b : Bool), vld N n = b → VldPost N n w (.returned (.bool b)) (w.alloc (.cells #[.int .u32 (nv s.a), .int .u32 (nv s.b), .int .u32 (nv s.c), .int .u32 (nv s.d), .int .u32 (nv s.e), .int .u32 (nv s.f), .int .u32 (nv s.g), .int .u32 (nv s.h), .slice A n c, .int .i64 N] 147)) := fun b hb => vld_mk hb ((Below.refl _ w).alloc (Nat.le_refl _) _)
 by_cases h1 : 0 ≤ N
 ·
  by_cases h2 : N ≤ 1099511627776
  ·
   have h4 : N.tmod 64 = N % 64 := Int.tmod_eq_emod_of_nonneg h1
   by_cases h3 : (n : Int) = N % 64
   ·
    have HV := Lib.hid (fin true (by unfold vld; simp [h1, h2, h3]))
    clear fin
    go_enter Tryz.func133, Tryz.ntmps133
    go_wp2
    go_ret
    exact HV.out
   ·
    have HV := Lib.hid (fin ((n : Int) == N % 64) (by unfold vld; simp [h3]))
    clear fin
    go_enter Tryz.func133, Tryz.ntmps133
    go_wp2
    go_ret
    exact HV.out
  ·
   have HV := Lib.hid (fin false (by unfold vld; simp [h2]))
   clear fin
   go_enter Tryz.func133, Tryz.ntmps133
   go_wp2
   go_ret
   exact HV.out
 ·
  have HV := Lib.hid (fin false (by unfold vld; simp [h1]))
  clear fin
  go_enter Tryz.func133, Tryz.ntmps133
  go_wp2
  go_ret
  exact HV.out
def NewPost (w : World) (e : Ending) (w' : World) : Prop := e = .returned (tv Sha.begin_ (.slice none 0 0) 0) ∧ Below w.heap.size w w'
theorem new_any (w : World) (hB : BeginLies w) : Calls Tryz.prog 113 #[] w (NewPost w) := by
 obtain ⟨hlt, c0, c1, c2, c3, c4, c5, c6, c7⟩ := hB
 obtain ⟨t, ht⟩ : ∃ t, Sha.begin_ = t := ⟨_, rfl⟩
 have HT := Lib.hid ht
 rw [ht] at c0 c1 c2 c3 c4 c5 c6 c7
 clear ht
 have HL := Lib.hid hlt
 clear hlt
 have d := fun (o : Obj) (j : Nat) => World.cell?_alloc_lt w o ⟨0, j, none⟩ HL.out
 have e0 := fun o => (d o 0).trans c0
 have e1 := fun o => (d o 1).trans c1
 have e2 := fun o => (d o 2).trans c2
 have e3 := fun o => (d o 3).trans c3
 have e4 := fun o => (d o 4).trans c4
 have e5 := fun o => (d o 5).trans c5
 have e6 := fun o => (d o 6).trans c6
 have e7 := fun o => (d o 7).trans c7
 clear d
 go_enter Tryz.func113, Tryz.ntmps113
 go_wp2
 refine bodyPost_ret (v := tv t (.slice none 0 0) 0) (by simp [results, Tryz.results113, go_sem]) rfl ⟨by rw [HT.out], ?_⟩
 first
  | exact (Below.refl _ w).alloc (Nat.le_refl _) _
  | exact below_setFrom (Nat.le_refl _) [_, _, _, _, _, _, _, _, _, _] 0 ((Below.refl _ w).alloc (Nat.le_refl _) _)
  | trace_state
def tc (s : Sha.St) (v : Value) (n : Int) : List Value := [.int .u32 (nv s.a), .int .u32 (nv s.b), .int .u32 (nv s.c), .int .u32 (nv s.d), .int .u32 (nv s.e), .int .u32 (nv s.f), .int .u32 (nv s.g), .int .u32 (nv s.h), v, .int .i64 n]
abbrev TRow (w : World) (b : Nat) (s : Sha.St) (v : Value) (n : Int) : Prop := Row w b (tc s v n).toArray 147
structure Ten (w : World) (b : Nat) (s : Sha.St) (v : Value) (n : Int) : Prop where
 c0 : w.cell? ⟨b, 0, none⟩ = some (.int .u32 (nv s.a))
 c1 : w.cell? ⟨b, 1, none⟩ = some (.int .u32 (nv s.b))
 c2 : w.cell? ⟨b, 2, none⟩ = some (.int .u32 (nv s.c))
 c3 : w.cell? ⟨b, 3, none⟩ = some (.int .u32 (nv s.d))
 c4 : w.cell? ⟨b, 4, none⟩ = some (.int .u32 (nv s.e))
 c5 : w.cell? ⟨b, 5, none⟩ = some (.int .u32 (nv s.f))
 c6 : w.cell? ⟨b, 6, none⟩ = some (.int .u32 (nv s.g))
 c7 : w.cell? ⟨b, 7, none⟩ = some (.int .u32 (nv s.h))
 c8 : w.cell? ⟨b, 8, none⟩ = some v
 c9 : w.cell? ⟨b, 9, none⟩ = some (.int .i64 n)
theorem TRow.ten {w : World} {b : Nat} {s : Sha.St} {v : Value} {n : Int} (h : TRow w b s v n) : Ten w b s v n :=
 ⟨h.cellQ 0 _ rfl, h.cellQ 1 _ rfl, h.cellQ 2 _ rfl, h.cellQ 3 _ rfl, h.cellQ 4 _ rfl, h.cellQ 5 _ rfl, h.cellQ 6 _ rfl, h.cellQ 7 _ rfl, h.cellQ 8 _ rfl, h.cellQ 9 _ rfl⟩
structure Ten' (w : World) (b : Nat) : Prop where
 c0 : ∃ v, w.cell? ⟨b, 0, none⟩ = some v
 c1 : ∃ v, w.cell? ⟨b, 1, none⟩ = some v
 c2 : ∃ v, w.cell? ⟨b, 2, none⟩ = some v
 c3 : ∃ v, w.cell? ⟨b, 3, none⟩ = some v
 c4 : ∃ v, w.cell? ⟨b, 4, none⟩ = some v
 c5 : ∃ v, w.cell? ⟨b, 5, none⟩ = some v
 c6 : ∃ v, w.cell? ⟨b, 6, none⟩ = some v
 c7 : ∃ v, w.cell? ⟨b, 7, none⟩ = some v
 c8 : ∃ v, w.cell? ⟨b, 8, none⟩ = some v
 c9 : ∃ v, w.cell? ⟨b, 9, none⟩ = some v
theorem Row.ten' {w : World} {b : Nat} {cs : Array Value} {t : TypeId} (h : Row w b cs t) (hs : cs.size = 10) : Ten' w b :=
 ⟨⟨_, h.cell 0 (by omega)⟩, ⟨_, h.cell 1 (by omega)⟩, ⟨_, h.cell 2 (by omega)⟩, ⟨_, h.cell 3 (by omega)⟩, ⟨_, h.cell 4 (by omega)⟩, ⟨_, h.cell 5 (by omega)⟩, ⟨_, h.cell 6 (by omega)⟩, ⟨_, h.cell 7 (by omega)⟩, ⟨_, h.cell 8 (by omega)⟩, ⟨_, h.cell 9 (by omega)⟩⟩
def takes (N : Int) (n m : Nat) : Bool := vld N n && decide ((m : Int) ≤ 1099511627776 - N)
def effS (s : Sha.St) (N : Int) (n m : Nat) : Sha.St := if takes N n m then s else Sha.begin_
def effR (rest : List UInt8) (N : Int) (n m : Nat) : List UInt8 := if takes N n m then rest else []
def effN (N : Int) (n m : Nat) : Int := if takes N n m then N else 0
def AddPost (s : Sha.St) (rest : List UInt8) (N : Int) (l : List UInt8) (w : World) (e : Ending) (w' : World) : Prop :=
 ∃ p : Sha.St × List UInt8, p = Sha.proc (effS s N rest.length l.length) (effR rest N rest.length l.length ++ l) ∧
  ∃ A c, e = .returned (tv p.1 (.slice A p.2.length c) (effN N rest.length l.length + l.length)) ∧ Rd w' w'.heap.size A (p.2.map bv) ∧ p.2.length ≤ c ∧ c ≤ maxLen ∧ Below w.heap.size w w'
structure ARel (s1 : Sha.St) (A1 : Option Addr) (n1 c1 : Nat) (r1 : List UInt8) (N1 : Int) (w wx : World) : Prop where
 below : Below w.heap.size w wx
 box : TRow wx w.heap.size s1 (.slice A1 n1 c1) N1
 res : ∃ cs, Row wx (w.heap.size + 1) cs 147 ∧ cs.size = 10
 rd : Rd wx w.heap.size A1 (r1.map bv)
 len : r1.length = n1
 cap : n1 ≤ c1
 max : c1 ≤ maxLen
 small : n1 < 64
 lo : 0 ≤ N1
 hi : N1 ≤ 1099511627776
theorem add_any (s : Sha.St) (A : Option Addr) (n c : Nat) (rest : List UInt8) (N : Int) (B : Option Addr) (m k : Nat) (l : List UInt8) (w : World)
  (hA : Rd w w.heap.size A (rest.map bv)) (hn : rest.length = n) (hc : n ≤ c) (hm : c ≤ maxLen)
  (hB : Rd w w.heap.size B (l.map bv)) (hl : l.length = m) (hk : m ≤ k) (hk2 : k ≤ maxLen) (hm2 : m ≤ 1099511627776) (hRL : RoundsLie w) (hBL : BeginLies w) :
  Calls Tryz.prog 112 #[tv s (.slice A n c) N, .slice B m k] w (AddPost s rest N l w) := by
 have HV := Lib.hid (fun w => valid_any s A n c N w hc hm)
 rw [maxLen_eq] at hm hk2
 obtain ⟨O1, hO1⟩ : ∃ O, O = Obj.cells (tc s (.slice A n c) N).toArray 147 := ⟨_, rfl⟩
 go_enter Tryz.func112, Tryz.ntmps112
 go_upto_region 1 with fail
 rename_i K1 h1 K h
 have key : ∀ (s1 : Sha.St) (A1 : Option Addr) (n1 c1 : Nat) (r1 : List UInt8) (N1 : Int) (u8 u9 u10 u11 u12 u13 u14 u15 u16 u17 u18 u19 : Value) (wx : World), ARel s1 A1 n1 c1 r1 N1 w wx → s1 = effS s N rest.length l.length → r1 = effR rest N rest.length l.length → N1 = effN N rest.length l.length →
   K1 { tmps := #[tv s (.slice A n c) N, .slice B m k, .pointer (some ⟨w.heap.size, 0, none⟩), undef, .pointer (some ⟨w.heap.size + 1, 0, none⟩), undef, undef, undef, u8, u9, u10, u11, u12, u13, u14, u15, u16, u17, u18, u19, undef, undef, undef, undef, undef, undef, undef, undef, undef, undef, undef, undef, undef, undef, undef, undef, undef, undef, undef, undef, undef, undef, undef, undef, undef, undef, undef, undef, undef, undef], defers := [] } wx := by
  clear h K HV
  intro s1 A1 n1 c1 r1 N1 u8 u9 u10 u11 u12 u13 u14 u15 u16 u17 u18 u19 wx hx e1 e2 e3
  have HX := Lib.hid hx
  have HE := Lib.hid (And.intro e1 (And.intro e2 e3))
  have hs := hx.small
  have hlo := hx.lo
  have hhi := hx.hi
  have hcap := hx.cap
  have hmax := hx.max
  rw [maxLen_eq] at hmax
  obtain ⟨c0, c1', c2, c3, c4, c5, c6, c7, c8, c9⟩ := hx.box.ten
  have h1l : (n1 : Int) + (m : Int) ≤ 1099511627840 := by omega
  clear hx e1 e2 e3
  refine h1 _ _ ?_
  clear h1
  clear c0 c1' c2 c3 c4 c5 c6 c7 c9
  have HRB := Lib.hid (And.intro hRL hBL)
  have HA := Lib.hid (And.intro hB hl)
  clear hA hB hn hl hRL hBL hc hm
  go_wp2_with (first
   | (at_make; refine wl_make rfl _ _ 28 rfl wx.heap.size 5 1 1 bytesT .i64 .i64 _ (n1 + m) rfl rfl (by push_cast; rfl) (by omega) (by rw [maxLen_eq]; omega) (Nat.le_refl _) ?_; intro w1 hown1 hb1; have HO1 := Lib.hid hown1; have HB1 := Lib.hid hb1; have d8 := (hb1.cell (p := ⟨w.heap.size, 8, none⟩) (Row.lt HX.out.box)).trans c8; clear hown1 hb1 c8)
   | (at_builtin; refine wl_app rfl (.tmp 27) (.tmp 29) 28 rfl wx.heap.size 5 1 1 bytesT _ 0 [] rfl HO1.out w.heap.size A1 n1 c1 (r1.map bv) rfl (HX.out.rd.below' HB1.out HX.out.below.size) (by simpa using HX.out.len) (by simp [bv, Value.oneCell']) (by rw [maxLen_eq]; omega) (by omega) HB1.out.size ?_; intro A2 c2 w2 hown2 hg2 hat2 hb2 hc2 hc2'; simp only [Nat.zero_add, List.nil_append] at hown2 hc2; have HO2 := Lib.hid hown2; have HB2 := Lib.hid (HB1.out.trans hb2); clear hown2 hg2 hat2 hb2 hc2 hc2' d8)
   | (at_builtin; refine wl_app rfl (.tmp 31) (.tmp 32) 28 rfl wx.heap.size 5 1 1 bytesT _ n1 _ rfl HO2.out w.heap.size B m k (l.map bv) rfl ((HA.out.1.below HX.out.below).below' HB2.out HX.out.below.size) (by simpa using HA.out.2) (by simp [bv, Value.oneCell']) (by rw [maxLen_eq]; omega) (by omega) HB2.out.size ?_; intro A3 c3 w3 hown3 hg3 hat3 hb3 hc3 hc3'; rw [← List.map_append] at hown3; have HR3 := Lib.hid (Rd.of_own hown3); have HB3 := Lib.hid (HB2.out.trans hb3); obtain ⟨q0, q1, q2, q3, q4, q5, q6, q7, _, _⟩ := TRow.ten (Row.belowS HX.out.box HB3.out (Nat.le_refl _)); clear hown3 hg3 hat3 hb3)
   | (go_at_call 134; refine (process_any s1 A3 c3 (r1 ++ l) (n1 + m) (by rw [List.length_append, HX.out.len, HA.out.2]) hc3 hc3' w3 HR3.out (HRB.out.1.below (HX.out.below.trans (HB3.out.mono HX.out.below.size)) (Nat.le_refl _))).mono ?_; rintro e w4 ⟨A4, c4, rfl, hr4, hc4, hc4', hb4⟩))
  obtain ⟨p, hp⟩ : ∃ p, Sha.proc s1 (r1 ++ l) = p := ⟨_, rfl⟩
  rw [hp] at hr4 hc4 ⊢
  have HP := Lib.hid hp
  have hp2 : p.2.length ≤ n1 + m := by
   rw [← hp, Sha.proc_rest, List.length_append, HX.out.len, HA.out.2]
   exact Nat.mod_le _ _
  have hB4 : Below wx.heap.size wx w4 := HB3.out.trans (hb4.mono HB3.out.size)
  generalize hw5 : w4.alloc _ = w5
  have hB5 : Below wx.heap.size wx w5 := by rw [← hw5]; exact hB4.alloc hB4.size _
  have h45 : Below w4.heap.size w4 w5 := by rw [← hw5]; exact (Below.refl _ _).alloc (Nat.le_refl _) _
  have hres : Row w5 w4.heap.size (ac p.1) 145 := by rw [← hw5]; exact row_new _ _ _
  have HR5 := Lib.hid (show Rd w5.drew w5.heap.size A4 (p.2.map bv) from (hr4.below' h45 hb4.size).more (Nat.le_trans hb4.size h45.size))
  have HB5 := Lib.hid hB5
  have HRES := Lib.hid hres
  have HC4 := Lib.hid (And.intro hc4 hc4')
  clear hw5 h45 hres hr4 hb4 hB4 hB5 hp q0 q1 q2 q3 q4 q5 q6 q7 hc4 hc4' HR3 HB3 HB2 HB1 HO1 HO2
  obtain ⟨cs, hcs, hcs2⟩ := HX.out.res
  have HCS := Lib.hid (And.intro (hcs.belowS HB5.out (Nat.le_refl _)) hcs2)
  have hlen : Rd w5.drew w5.heap.size A4 (p.2.map bv) → (p.2.map bv).length = p.2.length * 1 := fun _ => by simp
  have e9 := (TRow.ten (Row.belowS HX.out.box HB5.out (Nat.le_refl _))).c9
  obtain ⟨q0, q1, q2, q3, q4, q5, q6, q7⟩ := Box.eight HRES.out
  have hN1 : N1 + (m : Int) ≤ 2199023255552 := by omega
  have hN0 : (0 : Int) ≤ N1 + (m : Int) := by omega
  clear hcs hcs2 hlen
  go_region_law (refine st_of (by simp [Region.wanted]) (wp_app (.const (.slice none 0 0)) (.tmp 42) 28 rfl w5.heap.size 5 1 1 bytesT _ 0 [] rfl (own_nil _ _ _ _) w5.heap.size A4 p.2.length c4 (p.2.map bv) rfl HR5.out (by simp) (by simp [bv, Value.oneCell']) (by rw [maxLen_eq]; omega) (by omega) (Nat.le_refl _) ?_); intro A6 c6 w6 hown6 hg6 hat6 hb6' hc6 hc6'; simp only [Nat.zero_add, List.nil_append] at hown6 hc6; have HO6 := Lib.hid hown6; have hb6 := bdrew hb6'; have HB6 := Lib.hid hb6; obtain ⟨g0, g1, g2, g3, g4, g5, g6, g7⟩ := Box.eight (Row.belowS HRES.out hb6 (Nat.le_refl _)); have g9 := (TRow.ten (Row.belowS HX.out.box (HB5.out.trans (hb6.mono HB5.out.size)) (Nat.le_refl _))).c9; have hrow := Row.belowS HCS.out.1 hb6 (Nat.le_refl _); obtain ⟨⟨_, y0⟩, ⟨_, y1⟩, ⟨_, y2⟩, ⟨_, y3⟩, ⟨_, y4⟩, ⟨_, y5⟩, ⟨_, y6⟩, ⟨_, y7⟩, ⟨_, y8⟩, ⟨_, y9⟩⟩ := hrow.ten' HCS.out.2; have z := hrow.frozen; have z0 := z 0; have z1 := z 1; have z2 := z 2; have z3 := z 3; have z4 := z 4; have z5 := z 5; have z6 := z 6; have z7 := z 7; have z8 := z 8; have z9 := z 9; have HROW := Lib.hid hrow; clear z hrow hb6 hb6' hown6 hg6 hat6 q0 q1 q2 q3 q4 q5 q6 q7)
  all_goals
   generalize hwd : World.setCell (World.setCell (World.setCell (World.setCell (World.setCell (World.setCell (World.setCell (World.setCell (World.setCell (World.setCell w6 _ _) _ _) _ _) _ _) _ _) _ _) _ _) _ _) _ _) _ _ = wd
   have hsf : setFrom (w.heap.size + 1) w6 0 (tc p.1 (.slice A6 p.2.length c6) (N1 + (m : Int))) = wd := by
    rw [wrap_id _ (by omega) (by omega)] at hwd
    simp only [tc, setFrom, Nat.zero_add, Nat.reduceAdd]
    with_reducible exact hwd
   have hrow2 : TRow wd (w.heap.size + 1) p.1 (.slice A6 p.2.length c6) (N1 + (m : Int)) := by
    rw [← hsf]
    exact HROW.out.all _ (by rw [HCS.out.2]; rfl)
   have HS := Lib.hid hsf
   obtain ⟨r0, r1', r2, r3, r4, r5, r6, r7, r8, r9⟩ := hrow2.ten
   clear hwd hsf hrow2 y0 y1 y2 y3 y4 y5 y6 y7 y8 y9 z0 z1 z2 z3 z4 z5 z6 z7 z8 z9 g0 g1 g2 g3 g4 g5 g6 g7 g9 e9
   go_wp2
   refine bodyPost_ret (v := tv p.1 (.slice A6 p.2.length c6) (N1 + (m : Int))) (by simp [results, Tryz.results112, go_sem, r0, r1', r2, r3, r4, r5, r6, r7, r8, r9]) rfl ?_
   have hbb := HX.out.below.trans ((HB5.out.trans (HB6.out.mono HB5.out.size)).mono HX.out.below.size)
   have hxs := HX.out.below.size
   have hlt5 : w.heap.size + 1 < w5.heap.size := HCS.out.1.lt
   obtain ⟨x1, x2, x3⟩ := HE.out
   refine ⟨p, ?_, A6, c6, ?_, ?_, hc6, hc6', ?_⟩
   · rw [← x1, ← x2, HP.out]
   · rw [← x3, HA.out.2]
   ·
    rw [← HS.out]
    exact Rd.of_own (own_setFrom HO6.out hlt5 _ 0)
   ·
    rw [← HS.out]
    exact below_setFrom (Nat.le_succ _) _ 0 hbb
 clear h1
 have hsz1 : ∀ O : Obj, (w.alloc O).heap.size = w.heap.size + 1 := fun O => by unfold World.alloc; simp
 have hBT : ∀ O O2 : Obj, Below w.heap.size w ((w.alloc O).alloc O2) := fun O O2 => ((Below.refl _ w).alloc (Nat.le_refl _) _).alloc (by rw [hsz1]; omega) _
 have hbox : ∀ O2 : Obj, TRow ((w.alloc (.cells (tc s (.slice A n c) N).toArray 147)).alloc O2) w.heap.size s (.slice A n c) N := fun O2 => (row_new w _ _).alloc _
 have hres : ∀ (O : Obj) (cs : Array Value), Row ((w.alloc O).alloc (.cells cs 147)) (w.heap.size + 1) cs 147 := fun O cs => by
  rw [← hsz1 O]; exact row_new _ _ _
 have HBX := Lib.hid (And.intro hbox (And.intro hres hBT))
 clear hbox hres hBT hsz1
 generalize hW : World.alloc (World.alloc w _) _ = W0
 have hbx : TRow W0 w.heap.size s (.slice A n c) N := by rw [← hW]; exact HBX.out.1 _
 have hrs : ∃ cs, Row W0 (w.heap.size + 1) cs 147 ∧ cs.size = 10 := by rw [← hW]; exact ⟨_, HBX.out.2.1 _ _, rfl⟩
 have hbl : Below w.heap.size w W0 := by rw [← hW]; exact HBX.out.2.2 _ _
 have HW := Lib.hid (And.intro hbx (And.intro hrs hbl))
 have HBL := Lib.hid (hBL.below hbl (Nat.le_refl _))
 have HKEY := Lib.hid key
 have HA := Lib.hid (And.intro hA hn)
 have HL := Lib.hid hl
 obtain ⟨c0, c1, c2, c3, c4, c5, c6, c7, c8, c9⟩ := hbx.ten
 clear hW hbx hrs hbl hBL hRL hA hB hn hl key HBX hO1
 have new : ∀ w1 : World, Below W0.heap.size W0 w1 → vld N n = false ∨ ¬ (m : Int) ≤ 1099511627776 - N → ∀ w2 : World, Below w1.heap.size w1 w2 → TRow w2 w.heap.size s (.slice A n c) N ∧
   ∀ (u8 u9 u10 u11 u12 u13 u14 u15 u16 u17 u18 u19 : Value), K1 { tmps := #[tv s (.slice A n c) N, .slice B m k, .pointer (some ⟨w.heap.size, 0, none⟩), undef, .pointer (some ⟨w.heap.size + 1, 0, none⟩), undef, undef, undef, u8, u9, u10, u11, u12, u13, u14, u15, u16, u17, u18, u19, undef, undef, undef, undef, undef, undef, undef, undef, undef, undef, undef, undef, undef, undef, undef, undef, undef, undef, undef, undef, undef, undef, undef, undef, undef, undef, undef, undef, undef, undef], defers := [] } (setFrom w.heap.size w2 0 (tc Sha.begin_ (.slice none 0 0) 0)) := by
  intro w1 hb1 hno w2 hb2
  obtain ⟨hbx, ⟨cs, hcs, hcs2⟩, hbl⟩ := HW.out
  have hb02 : Below W0.heap.size W0 w2 := hb1.trans (hb2.mono hb1.size)
  have hbox2 := Row.belowS hbx hb02 (Nat.le_refl _)
  have htk : takes N rest.length l.length = false := by
   rw [HA.out.2, HL.out]
   unfold takes
   rcases hno with h | h
   · simp [h]
   · simp only [decide_eq_false h, Bool.and_false]
  refine ⟨hbox2, fun u8 u9 u10 u11 u12 u13 u14 u15 u16 u17 u18 u19 => HKEY.out Sha.begin_ none 0 0 [] 0 u8 u9 u10 u11 u12 u13 u14 u15 u16 u17 u18 u19 _ ?_ (by unfold effS; rw [htk]; rfl) (by unfold effR; rw [htk]; rfl) (by unfold effN; rw [htk]; rfl)⟩
  exact ⟨below_setFrom (Nat.le_refl _) _ 0 (hbl.trans (hb02.mono hbl.size)), Row.all hbox2 _ rfl, ⟨cs, Row.far_setFrom (by omega) _ 0 (hcs.belowS hb02 (Nat.le_refl _)), hcs2⟩, Rd.nil, rfl, Nat.le_refl _, Nat.zero_le _, by decide, by decide, by decide⟩
 have HNEW := Lib.hid new
 clear new
 by_cases hv : vld N n = true
 ·
  have hv' : 0 ≤ N ∧ N ≤ 1099511627776 ∧ (n : Int) = N % 64 := by
   have := hv
   unfold vld at this
   exact of_decide_eq_true this
  obtain ⟨v1, v2, v3⟩ := hv'
  have HVV := Lib.hid hv
  have HV3 := Lib.hid v3
  by_cases hfit : (m : Int) ≤ 1099511627776 - N
  ·
   clear hv v3
   have hnot : ¬ (1099511627776 - N < (m : Int)) := by omega
   go_wp2_with (go_at_call 133; refine (HV.out _).mono ?_; rintro e w1 ⟨rfl, hb1⟩; rw [HVV.out]; have HB1 := Lib.hid hb1; have d9 := (TRow.ten (Row.belowS HW.out.1 hb1 (Nat.le_refl _))).c9; clear hb1 c0 c1 c2 c3 c4 c5 c6 c7 c8 c9)
   obtain ⟨hbx, ⟨cs, hcs, hcs2⟩, hbl⟩ := HW.out
   have htk : takes N rest.length l.length = true := by
    rw [HA.out.2, HL.out]
    unfold takes
    rw [HVV.out]; simpa using hfit
   refine HKEY.out s A n c rest N _ _ _ _ _ _ _ _ _ _ _ _ w1 ?_ (by unfold effS; rw [htk]; rfl) (by unfold effR; rw [htk]; rfl) (by unfold effN; rw [htk]; rfl)
   have hb := HB1.out
   exact ⟨hbl.trans (hb.mono hbl.size), Row.belowS hbx hb (Nat.le_refl _), ⟨cs, hcs.belowS hb (Nat.le_refl _), hcs2⟩, HA.out.1.below (hbl.trans (hb.mono hbl.size)), HA.out.2, hc, by rw [maxLen_eq]; exact hm, by have := HV3.out; omega, v1, v2⟩
  ·
   clear hv v3
   have HF := Lib.hid hfit
   go_wp2_with (first
    | (go_at_call 133; refine (HV.out _).mono ?_; rintro e w1 ⟨rfl, hb1⟩; rw [HVV.out]; have HB1 := Lib.hid hb1; have d9 := (TRow.ten (Row.belowS HW.out.1 hb1 (Nat.le_refl _))).c9; clear hb1 c0 c1 c2 c3 c4 c5 c6 c7 c8 c9)
    | (go_at_call 113; refine (new_any w1 (HBL.out.below HB1.out (Nat.le_refl _))).mono ?_; rintro e w2 ⟨rfl, hb2⟩; obtain ⟨hrow, HFIN⟩ := HNEW.out w1 HB1.out (.inr HF.out) w2 hb2; obtain ⟨y0, y1, y2, y3, y4, y5, y6, y7, y8, y9⟩ := hrow.ten; have z := hrow.frozen; have z0 := z 0; have z1 := z 1; have z2 := z 2; have z3 := z 3; have z4 := z 4; have z5 := z 5; have z6 := z 6; have z7 := z 7; have z8 := z 8; have z9 := z 9; have HFI := Lib.hid HFIN; clear HFIN hrow z hb2 d9))
   have hk := HFI.out
   simp only [tc, setFrom, Nat.zero_add, Nat.reduceAdd] at hk
   exact hk _ _ _ _ _ _ _ _ _ _ _ _
 ·
  have hv' : vld N n = false := by simpa using hv
  have HVV := Lib.hid hv'
  clear hv hv'
  go_wp2_with (first
   | (go_at_call 133; refine (HV.out _).mono ?_; rintro e w1 ⟨rfl, hb1⟩; rw [HVV.out]; have HB1 := Lib.hid hb1; clear hb1 c0 c1 c2 c3 c4 c5 c6 c7 c8 c9)
   | (go_at_call 113; refine (new_any w1 (HBL.out.below HB1.out (Nat.le_refl _))).mono ?_; rintro e w2 ⟨rfl, hb2⟩; obtain ⟨hrow, HFIN⟩ := HNEW.out w1 HB1.out (.inl HVV.out) w2 hb2; obtain ⟨y0, y1, y2, y3, y4, y5, y6, y7, y8, y9⟩ := hrow.ten; have z := hrow.frozen; have z0 := z 0; have z1 := z 1; have z2 := z 2; have z3 := z 3; have z4 := z 4; have z5 := z 5; have z6 := z 6; have z7 := z 7; have z8 := z 8; have z9 := z 9; have HFI := Lib.hid HFIN; clear HFIN hrow z hb2))
  have hk := HFI.out
  simp only [tc, setFrom, Nat.zero_add, Nat.reduceAdd] at hk
  exact hk _ _ _ _ _ _ _ _ _ _ _ _
def endS (s : Sha.St) (N : Int) (n : Nat) : Sha.St := if vld N n then s else Sha.begin_
def endR (rest : List UInt8) (N : Int) (n : Nat) : List UInt8 := if vld N n then rest else []
def endN (N : Int) (n : Nat) : Int := if vld N n then N else 0
def EndPost (s : Sha.St) (rest : List UInt8) (N : Int) (w : World) (e : Ending) (w' : World) : Prop :=
 e = .returned (sv (Sha.end_ (endS s N rest.length) (endR rest N rest.length) (endN N rest.length).toNat)) ∧ Below w.heap.size w w'
structure ERel (s1 : Sha.St) (A1 : Option Addr) (n1 c1 : Nat) (r1 : List UInt8) (N1 : Int) (w wx : World) : Prop where
 below : Below w.heap.size w wx
 box : TRow wx w.heap.size s1 (.slice A1 n1 c1) N1
 rd : Rd wx w.heap.size A1 (r1.map bv)
 len : r1.length = n1
 cap : n1 ≤ c1
 max : c1 ≤ maxLen
 small : n1 < 64
 lo : 0 ≤ N1
 hi : N1 ≤ 1099511627776
theorem lenBytes_take (N i : Nat) (h : i < 8) : (Sha.lenBytes N).take (i + 1) = (Sha.lenBytes N).take i ++ [UInt8.ofNat (N * 8 / 2 ^ (56 - 8 * i) % 256)] := by
 rw [List.take_add_one]
 congr 1
 simp [Sha.lenBytes, h]
theorem bv_ofNat (x : Nat) (h : x < 256) : bv (UInt8.ofNat x) = .int .u8 (x : Int) := by
 unfold bv
 rw [UInt8.toNat_ofNat']
 congr 2
 omega
theorem own_snoc {w : World} {B : Nat} {e : TypeId} {v : Value} {n : Nat} {xs : List UInt8} {y : Value} {b : UInt8} (h : w.ownsRow B e 1 v n (xs.map bv ++ [y])) (hy : y = bv b) : w.ownsRow B e 1 v n ((xs ++ [b]).map bv) := by
 subst hy
 rw [List.map_append]; exact h
theorem own_snocs {w : World} {B : Nat} {e : TypeId} {v : Value} {n : Nat} {xs ys : List UInt8} {zs : List Value} (h : w.ownsRow B e 1 v n (xs.map bv ++ zs)) (hy : zs = ys.map bv) : w.ownsRow B e 1 v n ((xs ++ ys).map bv) := by
 subst hy
 rw [List.map_append]; exact h
theorem bv_u8 (y : UInt32) : bv y.toUInt8 = .int .u8 (nv y % 256) := by
 simp [bv, nv]
theorem wb_list (x : UInt32) (a b c d : Int) (ha : a = nv x / 16777216 % 256) (hb : b = nv x / 65536 % 256) (hc : c = nv x / 256 % 256) (hd : d = nv x % 256) :
  [Value.int .u8 a, .int .u8 b, .int .u8 c, .int .u8 d] = (Sha.wordBytes x).map bv := by
 subst ha; subst hb; subst hc; subst hd
 have h1 := nv_shr x 24 (by decide) 16777216 (by decide)
 have h2 := nv_shr x 16 (by decide) 65536 (by decide)
 have h3 := nv_shr x 8 (by decide) 256 (by decide)
 simp only [Sha.wordBytes, List.map_cons, List.map_nil, bv_u8]
 rw [h1, h2, h3]
 rfl
theorem idx8 (p : Sha.St) (w : World) (v : Value) (i : Nat) (hi : i < 8) (hv : (ac p)[i]? = some v) : (Instr.index 145 (av p) (.int .i64 (i : Int))).run Tryz.prog w = .ok v w := by
 rcases (show i = 0 ∨ i = 1 ∨ i = 2 ∨ i = 3 ∨ i = 4 ∨ i = 5 ∨ i = 6 ∨ i = 7 by omega) with rfl | rfl | rfl | rfl | rfl | rfl | rfl | rfl <;>
 ·
  injection hv with hv
  subst hv
  have h1 := run_sizeOf_of (P := Tryz.prog) (w := w) 144 1 (by kernel_rfl)
  simp [Instr.index, asIntOf, run_underlying Tryz.underlying145, part, h1, ac]
theorem zeros_lt (n j : Nat) (h : n < 64) (hj : j ≤ Sha.zeros n) (h2 : ¬ ((n + 1 + j : Nat) : Int) % 64 = 56) : j + 1 ≤ Sha.zeros n := by
 unfold Sha.zeros at *; omega
theorem zeros_eq (n j : Nat) (h : n < 64) (hj : j ≤ Sha.zeros n) (h2 : ((n + 1 + j : Nat) : Int) % 64 = 56) : j = Sha.zeros n := by
 unfold Sha.zeros at *; omega
theorem zeros_le (n : Nat) : Sha.zeros n < 64 := by unfold Sha.zeros; omega
theorem end_any (s : Sha.St) (A : Option Addr) (n c : Nat) (rest : List UInt8) (N : Int) (w : World)
  (hA : Rd w w.heap.size A (rest.map bv)) (hn : rest.length = n) (hc : n ≤ c) (hm : c ≤ maxLen) (hRL : RoundsLie w) (hBL : BeginLies w) :
  Calls Tryz.prog 111 #[tv s (.slice A n c) N] w (EndPost s rest N w) := by
 have HV := Lib.hid (fun w => valid_any s A n c N w hc hm)
 rw [maxLen_eq] at hm
 go_enter Tryz.func111, Tryz.ntmps111
 go_upto_region 1 with fail
 rename_i K1 h1 K h
 have key : ∀ (s1 : Sha.St) (A1 : Option Addr) (n1 c1 : Nat) (r1 : List UInt8) (N1 : Int) (u11 u12 u13 u14 : Value) (wx : World), ERel s1 A1 n1 c1 r1 N1 w wx → s1 = endS s N rest.length → r1 = endR rest N rest.length → N1 = endN N rest.length →
   K1 { tmps := #[tv s (.slice A n c) N, .pointer (some ⟨w.heap.size, 0, none⟩), .string { data := #[] }, undef, undef, undef, undef, undef, undef, undef, undef, u11, u12, u13, u14, undef, undef, undef, undef, undef, undef, undef, undef, undef, undef, undef, undef, undef, undef, undef, undef, undef, undef, undef, undef, undef, undef, undef, undef, undef, undef, undef, undef, undef, undef, undef, undef, undef, undef, undef, undef, undef, undef, undef, undef, undef, undef, undef, undef, undef, undef, undef, undef, undef, undef, undef, undef, undef, undef, undef, undef, undef, undef, undef], defers := [] } wx := by
  clear h K HV
  intro s1 A1 n1 c1 r1 N1 u11 u12 u13 u14 wx hx e1 e2 e3
  have HX := Lib.hid hx
  have HE := Lib.hid (And.intro e1 (And.intro e2 e3))
  have hs := hx.small
  have hlo := hx.lo
  have hhi := hx.hi
  have hcap := hx.cap
  have hmax := hx.max
  rw [maxLen_eq] at hmax
  obtain ⟨c0, c1', c2, c3, c4, c5, c6, c7, c8, c9⟩ := hx.box.ten
  have HRB := Lib.hid hRL
  obtain ⟨nn, hnn⟩ := Int.eq_ofNat_of_zero_le hlo
  have HNN := Lib.hid hnn
  clear hx e1 e2 e3 hRL hBL hA hn hc hm hnn
  refine h1 _ _ ?_
  clear h1
  clear c0 c1' c2 c3 c4 c5 c6 c7 c9
  go_wp2_with (first
   | (at_builtin; refine wl_app rfl (.const (.slice none 0 0)) (.tmp 16) 28 rfl wx.heap.size 5 1 1 bytesT _ 0 [] rfl (own_nil _ _ _ _) w.heap.size A1 n1 c1 (r1.map bv) rfl HX.out.rd (by simpa using HX.out.len) (by simp [bv, Value.oneCell']) (by rw [maxLen_eq]; omega) (by omega) (Nat.le_refl _) ?_; intro A2 c2 w2 hown2 hg2 hat2 hb2 hc2 hc2'; simp only [Nat.zero_add, List.nil_append] at hown2 hc2; have HO2 := Lib.hid hown2; have HB2 := Lib.hid hb2; clear hown2 hg2 hat2 hb2 hc2 hc2' c8)
   | (at_builtin; refine wl_app rfl (.tmp 18) (.tmp 19) 28 rfl wx.heap.size 5 1 1 bytesT _ n1 _ rfl (HO2.out.alloc _) (w2.heap.size + 1) (some ⟨w2.heap.size, 0, none⟩) 1 1 ([128].map bv) rfl (rd_new w2 ([128].map bv) 5 (0, 0)) rfl (by simp [bv, Value.oneCell']) (by rw [maxLen_eq]; omega) (by omega) (Nat.le_trans HB2.out.size (by unfold World.alloc; simp)) ?_; intro A3 c3 w3 hown3 hg3 hat3 hb3 hc3 hc3'; rw [← List.map_append] at hown3; have HO3 := Lib.hid hown3; have HB3 := Lib.hid ((HB2.out.alloc HB2.out.size _).trans hb3); clear hown3 hg3 hat3 hb3))
  have hc3a := hc3
  have hc3b := hc3'
  rw [maxLen_eq] at hc3b
  have hz := zeros_le n1
  clear hc3 hc3' HB2 HO2
  go_loopw [3] (fun v wr => ∃ (j t : Nat) (A' : Option Addr) (c' : Nat), t = n1 + 1 + j ∧ v = .slice A' t c' ∧ t ≤ c' ∧ c' ≤ 9223372036854775807 ∧ j ≤ Sha.zeros n1 ∧ wr.ownsRow wx.heap.size 5 1 (.slice A' t c') t ((r1 ++ [128] ++ List.replicate j 0).map bv) ∧ Below wx.heap.size wx wr) (fun v _ => match v with | .slice _ n _ => 200 - n | _ => 0)
  case atStart => exact ⟨0, n1 + 1, A3, c3, rfl, rfl, hc3a, hc3b, Nat.zero_le _, by simpa using HO3.out, HB3.out⟩
  clear hc3a hc3b HO3 HB3
  case round =>
   obtain ⟨j, t, A', c', ht, rfl, hc', hc'', hj, hown, hbel⟩ := hrel
   have HO := Lib.hid hown
   have HB := Lib.hid hbel
   have htm : ((t : Nat) : Int).tmod 64 = (t : Int) % 64 := Int.tmod_eq_emod_of_nonneg (by omega)
   have ht2 : t ≤ 128 := by omega
   by_cases h56 : (t : Int) % 64 = 56
   ·
    have hje : j = Sha.zeros n1 := zeros_eq n1 j hs hj (by rw [← ht]; exact h56)
    have HJ := Lib.hid hje
    have HT := Lib.hid ht
    have d9 := (TRow.ten (Row.belowS HX.out.box hbel (Nat.le_refl _))).c9
    rw [HNN.out] at d9
    have hnb : (nn : Int) ≤ 1099511627776 := by have := HNN.out; omega
    have hnb2 : (nn : Int) * 8 ≤ 8796093022208 := by omega
    have HT0 := Lib.hid (show wr.ownsRow wx.heap.size 5 1 (.slice A' t c') t ((r1 ++ [128] ++ List.replicate (Sha.zeros n1) 0 ++ (Sha.lenBytes nn).take 0).map bv) by rw [← hje]; simpa using hown)
    clear hown hbel hje ht hj HO hlo hhi
    go_wp2
    go_loopw [3, 32] (fun v i wz => ∃ (k u : Nat) (A2 : Option Addr) (c2 : Nat), k ≤ 8 ∧ i = .int .i64 k ∧ u = t + k ∧ v = .slice A2 u c2 ∧ u ≤ c2 ∧ c2 ≤ 9223372036854775807 ∧ wz.ownsRow wx.heap.size 5 1 (.slice A2 u c2) u ((r1 ++ [128] ++ List.replicate (Sha.zeros n1) 0 ++ (Sha.lenBytes nn).take k).map bv) ∧ Below wx.heap.size wx wz) (fun _ i _ => 8 - (intOf i).toNat)
    case atStart => exact ⟨0, t, A', c', by omega, rfl, rfl, rfl, hc', hc'', HT0.out, HB.out⟩
    clear HT0
    case round =>
     obtain ⟨k, u, A2, c2, hk8, rfl, hu, rfl, hc2, hc2', hown, hbel⟩ := hrel
     have HO := Lib.hid hown
     have HB2 := Lib.hid hbel
     have HU := Lib.hid hu
     have hu2 : u ≤ 136 := by omega
     clear hown hbel hu
     by_cases hk : k < 8
     ·
      have hlb := lenBytes_take nn k hk
      have HLB := Lib.hid hlb
      clear hlb
      rcases (show k = 0 ∨ k = 1 ∨ k = 2 ∨ k = 3 ∨ k = 4 ∨ k = 5 ∨ k = 6 ∨ k = 7 by omega) with rfl | rfl | rfl | rfl | rfl | rfl | rfl | rfl
      ·
       go_wp2_with (first
        | (at_builtin; refine wl_app rfl (.tmp 35) (.tmp 42) 28 rfl wx.heap.size 5 1 1 bytesT _ u _ rfl (HO.out.alloc _) (_ + 1) (some ⟨_, 0, none⟩) 1 1 [_] rfl (rd_new _ [_] 5 (0, 0)) rfl (by simp [Value.oneCell']) (by rw [maxLen_eq]; omega) (by omega) (Nat.le_trans HB2.out.size (by unfold World.alloc; simp)) ?_; intro A3 c3 w3 hown3 hg3 hat3 hb3 hc3 hc3'; have HO3 := Lib.hid hown3; have HB3 := Lib.hid ((HB2.out.alloc HB2.out.size _).trans hb3); have HC3 := Lib.hid (And.intro hc3 hc3'); clear hown3 hg3 hat3 hb3 hc3 hc3'))
       go_roundw
       case rel =>
        refine ⟨0 + 1, u + 1, A3, c3, by omega, rfl, by have := HU.out; omega, rfl, HC3.out.1, by have := HC3.out.2; rw [maxLen_eq] at this; exact this, ?_, HB3.out⟩
        rw [HLB.out, ← List.append_assoc]
        refine own_snoc HO3.out ?_
        rw [bv_ofNat _ (Nat.mod_lt _ (by decide))]
        congr 1
        all_goals (try simp only [Nat.reduceMul, Nat.reduceSub, Nat.reducePow])
        all_goals (try omega)
       case measure => simp [intOf]
      ·
       go_wp2_with (first
        | (at_builtin; refine wl_app rfl (.tmp 35) (.tmp 42) 28 rfl wx.heap.size 5 1 1 bytesT _ u _ rfl (HO.out.alloc _) (_ + 1) (some ⟨_, 0, none⟩) 1 1 [_] rfl (rd_new _ [_] 5 (0, 0)) rfl (by simp [Value.oneCell']) (by rw [maxLen_eq]; omega) (by omega) (Nat.le_trans HB2.out.size (by unfold World.alloc; simp)) ?_; intro A3 c3 w3 hown3 hg3 hat3 hb3 hc3 hc3'; have HO3 := Lib.hid hown3; have HB3 := Lib.hid ((HB2.out.alloc HB2.out.size _).trans hb3); have HC3 := Lib.hid (And.intro hc3 hc3'); clear hown3 hg3 hat3 hb3 hc3 hc3'))
       go_roundw
       case rel =>
        refine ⟨1 + 1, u + 1, A3, c3, by omega, rfl, by have := HU.out; omega, rfl, HC3.out.1, by have := HC3.out.2; rw [maxLen_eq] at this; exact this, ?_, HB3.out⟩
        rw [HLB.out, ← List.append_assoc]
        refine own_snoc HO3.out ?_
        rw [bv_ofNat _ (Nat.mod_lt _ (by decide))]
        congr 1
        all_goals (try simp only [Nat.reduceMul, Nat.reduceSub, Nat.reducePow])
        all_goals (try omega)
       case measure => simp [intOf]
      ·
       go_wp2_with (first
        | (at_builtin; refine wl_app rfl (.tmp 35) (.tmp 42) 28 rfl wx.heap.size 5 1 1 bytesT _ u _ rfl (HO.out.alloc _) (_ + 1) (some ⟨_, 0, none⟩) 1 1 [_] rfl (rd_new _ [_] 5 (0, 0)) rfl (by simp [Value.oneCell']) (by rw [maxLen_eq]; omega) (by omega) (Nat.le_trans HB2.out.size (by unfold World.alloc; simp)) ?_; intro A3 c3 w3 hown3 hg3 hat3 hb3 hc3 hc3'; have HO3 := Lib.hid hown3; have HB3 := Lib.hid ((HB2.out.alloc HB2.out.size _).trans hb3); have HC3 := Lib.hid (And.intro hc3 hc3'); clear hown3 hg3 hat3 hb3 hc3 hc3'))
       go_roundw
       case rel =>
        refine ⟨2 + 1, u + 1, A3, c3, by omega, rfl, by have := HU.out; omega, rfl, HC3.out.1, by have := HC3.out.2; rw [maxLen_eq] at this; exact this, ?_, HB3.out⟩
        rw [HLB.out, ← List.append_assoc]
        refine own_snoc HO3.out ?_
        rw [bv_ofNat _ (Nat.mod_lt _ (by decide))]
        congr 1
        all_goals (try simp only [Nat.reduceMul, Nat.reduceSub, Nat.reducePow])
        all_goals (try omega)
       case measure => simp [intOf]
      ·
       go_wp2_with (first
        | (at_builtin; refine wl_app rfl (.tmp 35) (.tmp 42) 28 rfl wx.heap.size 5 1 1 bytesT _ u _ rfl (HO.out.alloc _) (_ + 1) (some ⟨_, 0, none⟩) 1 1 [_] rfl (rd_new _ [_] 5 (0, 0)) rfl (by simp [Value.oneCell']) (by rw [maxLen_eq]; omega) (by omega) (Nat.le_trans HB2.out.size (by unfold World.alloc; simp)) ?_; intro A3 c3 w3 hown3 hg3 hat3 hb3 hc3 hc3'; have HO3 := Lib.hid hown3; have HB3 := Lib.hid ((HB2.out.alloc HB2.out.size _).trans hb3); have HC3 := Lib.hid (And.intro hc3 hc3'); clear hown3 hg3 hat3 hb3 hc3 hc3'))
       go_roundw
       case rel =>
        refine ⟨3 + 1, u + 1, A3, c3, by omega, rfl, by have := HU.out; omega, rfl, HC3.out.1, by have := HC3.out.2; rw [maxLen_eq] at this; exact this, ?_, HB3.out⟩
        rw [HLB.out, ← List.append_assoc]
        refine own_snoc HO3.out ?_
        rw [bv_ofNat _ (Nat.mod_lt _ (by decide))]
        congr 1
        all_goals (try simp only [Nat.reduceMul, Nat.reduceSub, Nat.reducePow])
        all_goals (try omega)
       case measure => simp [intOf]
      ·
       go_wp2_with (first
        | (at_builtin; refine wl_app rfl (.tmp 35) (.tmp 42) 28 rfl wx.heap.size 5 1 1 bytesT _ u _ rfl (HO.out.alloc _) (_ + 1) (some ⟨_, 0, none⟩) 1 1 [_] rfl (rd_new _ [_] 5 (0, 0)) rfl (by simp [Value.oneCell']) (by rw [maxLen_eq]; omega) (by omega) (Nat.le_trans HB2.out.size (by unfold World.alloc; simp)) ?_; intro A3 c3 w3 hown3 hg3 hat3 hb3 hc3 hc3'; have HO3 := Lib.hid hown3; have HB3 := Lib.hid ((HB2.out.alloc HB2.out.size _).trans hb3); have HC3 := Lib.hid (And.intro hc3 hc3'); clear hown3 hg3 hat3 hb3 hc3 hc3'))
       go_roundw
       case rel =>
        refine ⟨4 + 1, u + 1, A3, c3, by omega, rfl, by have := HU.out; omega, rfl, HC3.out.1, by have := HC3.out.2; rw [maxLen_eq] at this; exact this, ?_, HB3.out⟩
        rw [HLB.out, ← List.append_assoc]
        refine own_snoc HO3.out ?_
        rw [bv_ofNat _ (Nat.mod_lt _ (by decide))]
        congr 1
        all_goals (try simp only [Nat.reduceMul, Nat.reduceSub, Nat.reducePow])
        all_goals (try omega)
       case measure => simp [intOf]
      ·
       go_wp2_with (first
        | (at_builtin; refine wl_app rfl (.tmp 35) (.tmp 42) 28 rfl wx.heap.size 5 1 1 bytesT _ u _ rfl (HO.out.alloc _) (_ + 1) (some ⟨_, 0, none⟩) 1 1 [_] rfl (rd_new _ [_] 5 (0, 0)) rfl (by simp [Value.oneCell']) (by rw [maxLen_eq]; omega) (by omega) (Nat.le_trans HB2.out.size (by unfold World.alloc; simp)) ?_; intro A3 c3 w3 hown3 hg3 hat3 hb3 hc3 hc3'; have HO3 := Lib.hid hown3; have HB3 := Lib.hid ((HB2.out.alloc HB2.out.size _).trans hb3); have HC3 := Lib.hid (And.intro hc3 hc3'); clear hown3 hg3 hat3 hb3 hc3 hc3'))
       go_roundw
       case rel =>
        refine ⟨5 + 1, u + 1, A3, c3, by omega, rfl, by have := HU.out; omega, rfl, HC3.out.1, by have := HC3.out.2; rw [maxLen_eq] at this; exact this, ?_, HB3.out⟩
        rw [HLB.out, ← List.append_assoc]
        refine own_snoc HO3.out ?_
        rw [bv_ofNat _ (Nat.mod_lt _ (by decide))]
        congr 1
        all_goals (try simp only [Nat.reduceMul, Nat.reduceSub, Nat.reducePow])
        all_goals (try omega)
       case measure => simp [intOf]
      ·
       go_wp2_with (first
        | (at_builtin; refine wl_app rfl (.tmp 35) (.tmp 42) 28 rfl wx.heap.size 5 1 1 bytesT _ u _ rfl (HO.out.alloc _) (_ + 1) (some ⟨_, 0, none⟩) 1 1 [_] rfl (rd_new _ [_] 5 (0, 0)) rfl (by simp [Value.oneCell']) (by rw [maxLen_eq]; omega) (by omega) (Nat.le_trans HB2.out.size (by unfold World.alloc; simp)) ?_; intro A3 c3 w3 hown3 hg3 hat3 hb3 hc3 hc3'; have HO3 := Lib.hid hown3; have HB3 := Lib.hid ((HB2.out.alloc HB2.out.size _).trans hb3); have HC3 := Lib.hid (And.intro hc3 hc3'); clear hown3 hg3 hat3 hb3 hc3 hc3'))
       go_roundw
       case rel =>
        refine ⟨6 + 1, u + 1, A3, c3, by omega, rfl, by have := HU.out; omega, rfl, HC3.out.1, by have := HC3.out.2; rw [maxLen_eq] at this; exact this, ?_, HB3.out⟩
        rw [HLB.out, ← List.append_assoc]
        refine own_snoc HO3.out ?_
        rw [bv_ofNat _ (Nat.mod_lt _ (by decide))]
        congr 1
        all_goals (try simp only [Nat.reduceMul, Nat.reduceSub, Nat.reducePow])
        all_goals (try omega)
       case measure => simp [intOf]
      ·
       go_wp2_with (first
        | (at_builtin; refine wl_app rfl (.tmp 35) (.tmp 42) 28 rfl wx.heap.size 5 1 1 bytesT _ u _ rfl (HO.out.alloc _) (_ + 1) (some ⟨_, 0, none⟩) 1 1 [_] rfl (rd_new _ [_] 5 (0, 0)) rfl (by simp [Value.oneCell']) (by rw [maxLen_eq]; omega) (by omega) (Nat.le_trans HB2.out.size (by unfold World.alloc; simp)) ?_; intro A3 c3 w3 hown3 hg3 hat3 hb3 hc3 hc3'; have HO3 := Lib.hid hown3; have HB3 := Lib.hid ((HB2.out.alloc HB2.out.size _).trans hb3); have HC3 := Lib.hid (And.intro hc3 hc3'); clear hown3 hg3 hat3 hb3 hc3 hc3'))
       go_roundw
       case rel =>
        refine ⟨7 + 1, u + 1, A3, c3, by omega, rfl, by have := HU.out; omega, rfl, HC3.out.1, by have := HC3.out.2; rw [maxLen_eq] at this; exact this, ?_, HB3.out⟩
        rw [HLB.out, ← List.append_assoc]
        refine own_snoc HO3.out ?_
        rw [bv_ofNat _ (Nat.mod_lt _ (by decide))]
        congr 1
        all_goals (try simp only [Nat.reduceMul, Nat.reduceSub, Nat.reducePow])
        all_goals (try omega)
       case measure => simp [intOf]
     ·
      obtain rfl : k = 8 := by omega
      have hu3 : u = t + 8 := HU.out
      have hul : (r1 ++ [128] ++ List.replicate (Sha.zeros n1) 0 ++ (Sha.lenBytes nn).take 8).length = u := by
       have := HO.out.1
       simpa using this
      have htl : r1 ++ [128] ++ List.replicate (Sha.zeros n1) 0 ++ (Sha.lenBytes nn).take 8 = Sha.tail r1 nn := by
       have : (Sha.lenBytes nn).take 8 = Sha.lenBytes nn := rfl
       rw [this]; unfold Sha.tail; rw [HX.out.len]
      have HOT := HO.out
      rw [htl] at hul HOT
      have HR := Lib.hid (Rd.of_own HOT)
      have HUL := Lib.hid hul
      have hRLz := HRB.out.below (HX.out.below.trans (HB2.out.mono HX.out.below.size)) (Nat.le_refl _)
      have HRZ := Lib.hid hRLz
      obtain ⟨q0, q1, q2, q3, q4, q5, q6, q7, _, _⟩ := TRow.ten (Row.belowS HX.out.box HB2.out (Nat.le_refl _))
      clear hul htl HOT hRLz hu3
      go_wp2_with (first
       | (go_at_call 134; refine (process_any s1 A2 c2 (Sha.tail r1 nn) u HUL.out hc2 (by rw [maxLen_eq]; exact hc2') _ HR.out HRZ.out).mono ?_; rintro e w4 ⟨A4, c4, rfl, hr4, hc4, hc4', hb4⟩; have HB4 := Lib.hid (HB2.out.trans (hb4.mono HB2.out.size)); obtain ⟨p, hp⟩ : ∃ p, Sha.proc s1 (Sha.tail r1 nn) = p := ⟨_, rfl⟩; rw [hp]; have HP := Lib.hid hp; clear hp hr4 hc4 hc4' hb4 q0 q1 q2 q3 q4 q5 q6 q7)
       | (at_make; refine wl_make rfl _ _ 28 rfl wx.heap.size 5 1 1 bytesT .i64 .i64 _ 32 rfl rfl rfl (by omega) (by rw [maxLen_eq]; omega) (Nat.le_trans HB4.out.size (by unfold World.alloc; simp)) ?_; intro w5 hown5 hb5; have HO5 := Lib.hid hown5; have HB5 := Lib.hid ((HB4.out.alloc HB4.out.size _).trans (hb5.mono (Nat.le_trans HB4.out.size (by unfold World.alloc; simp)))); have hr8 : Row w5 w4.heap.size (ac p.1) 145 := (row_new w4 (ac p.1) _).belowS hb5 (Nat.le_refl _); obtain ⟨z0, z1, z2, z3, z4, z5, z6, z7⟩ := Box.eight hr8; clear hown5 hb5 hr8))
      have h5 : (32 : Int) ≤ 9223372036854775807 := by decide
      go_loopw [8, 54] (fun v i wz => ∃ (k u : Nat) (A2 : Option Addr) (c2 : Nat), k ≤ 8 ∧ i = .int .i64 k ∧ u = 4 * k ∧ v = .slice A2 u c2 ∧ u ≤ c2 ∧ c2 ≤ 9223372036854775807 ∧ wz.ownsRow wx.heap.size 5 1 (.slice A2 u c2) u (((p.1.list.take k).flatMap Sha.wordBytes).map bv) ∧ Below wx.heap.size wx wz) (fun _ i _ => 8 - (intOf i).toNat)
      case atStart => exact ⟨0, 0, some ⟨w4.heap.size + 1, 0, none⟩, 32, by omega, rfl, rfl, rfl, by omega, by omega, by simpa using HO5.out, HB5.out⟩
      clear HO5 HB5 z0 z1 z2 z3 z4 z5 z6 z7 h5
      case round =>
       obtain ⟨k, u, A2, c2, hk8, rfl, hu, rfl, hc2, hc2', hown, hbel⟩ := hrel
       have HO := Lib.hid hown
       have HB2 := Lib.hid hbel
       have HU := Lib.hid hu
       have hu2 : u ≤ 32 := by omega
       clear hown hbel hu
       by_cases hk : k < 8
       ·
        rcases (show k = 0 ∨ k = 1 ∨ k = 2 ∨ k = 3 ∨ k = 4 ∨ k = 5 ∨ k = 6 ∨ k = 7 by omega) with rfl | rfl | rfl | rfl | rfl | rfl | rfl | rfl
        ·
         go_wp2_with (first
          | (refine wl_index rfl 145 (.tmp 53) (.tmp 54) rfl (ac p.1) _ (.int .u32 (nv p.1.a)) rfl rfl (idx8 p.1 _ _ 0 (by decide) rfl) ?_)
          | (at_builtin; refine wl_app rfl (.tmp 57) (.tmp 69) 28 rfl wx.heap.size 5 1 1 bytesT _ u _ rfl (HO.out.alloc _) (_ + 1) (some ⟨_, 0, none⟩) 4 4 [_, _, _, _] rfl (rd_new _ [_, _, _, _] 5 (0, 0)) rfl (by simp [Value.oneCell']) (by rw [maxLen_eq]; omega) (by omega) (Nat.le_trans HB2.out.size (by unfold World.alloc; simp)) ?_; intro A3 c3 w3 hown3 hg3 hat3 hb3 hc3 hc3'; have HO3 := Lib.hid hown3; have HB3 := Lib.hid ((HB2.out.alloc HB2.out.size _).trans hb3); have HC3 := Lib.hid (And.intro hc3 hc3'); clear hown3 hg3 hat3 hb3 hc3 hc3'))
         go_roundw
         case rel =>
          refine ⟨0 + 1, u + 4, A3, c3, by omega, rfl, by have := HU.out; omega, rfl, HC3.out.1, by have := HC3.out.2; rw [maxLen_eq] at this; exact this, ?_, HB3.out⟩
          rw [show p.1.list.take (0 + 1) = p.1.list.take 0 ++ [p.1.a] from rfl, List.flatMap_append, List.flatMap_singleton]
          have n0 := nv_lo p.1.a
          have n1 := nv_hi p.1.a
          exact own_snocs HO3.out (wb_list p.1.a _ _ _ _ (by omega) (by omega) (by omega) (by omega))
         case measure => simp [intOf]
        ·
         go_wp2_with (first
          | (refine wl_index rfl 145 (.tmp 53) (.tmp 54) rfl (ac p.1) _ (.int .u32 (nv p.1.b)) rfl rfl (idx8 p.1 _ _ 1 (by decide) rfl) ?_)
          | (at_builtin; refine wl_app rfl (.tmp 57) (.tmp 69) 28 rfl wx.heap.size 5 1 1 bytesT _ u _ rfl (HO.out.alloc _) (_ + 1) (some ⟨_, 0, none⟩) 4 4 [_, _, _, _] rfl (rd_new _ [_, _, _, _] 5 (0, 0)) rfl (by simp [Value.oneCell']) (by rw [maxLen_eq]; omega) (by omega) (Nat.le_trans HB2.out.size (by unfold World.alloc; simp)) ?_; intro A3 c3 w3 hown3 hg3 hat3 hb3 hc3 hc3'; have HO3 := Lib.hid hown3; have HB3 := Lib.hid ((HB2.out.alloc HB2.out.size _).trans hb3); have HC3 := Lib.hid (And.intro hc3 hc3'); clear hown3 hg3 hat3 hb3 hc3 hc3'))
         go_roundw
         case rel =>
          refine ⟨1 + 1, u + 4, A3, c3, by omega, rfl, by have := HU.out; omega, rfl, HC3.out.1, by have := HC3.out.2; rw [maxLen_eq] at this; exact this, ?_, HB3.out⟩
          rw [show p.1.list.take (1 + 1) = p.1.list.take 1 ++ [p.1.b] from rfl, List.flatMap_append, List.flatMap_singleton]
          have n0 := nv_lo p.1.b
          have n1 := nv_hi p.1.b
          exact own_snocs HO3.out (wb_list p.1.b _ _ _ _ (by omega) (by omega) (by omega) (by omega))
         case measure => simp [intOf]
        ·
         go_wp2_with (first
          | (refine wl_index rfl 145 (.tmp 53) (.tmp 54) rfl (ac p.1) _ (.int .u32 (nv p.1.c)) rfl rfl (idx8 p.1 _ _ 2 (by decide) rfl) ?_)
          | (at_builtin; refine wl_app rfl (.tmp 57) (.tmp 69) 28 rfl wx.heap.size 5 1 1 bytesT _ u _ rfl (HO.out.alloc _) (_ + 1) (some ⟨_, 0, none⟩) 4 4 [_, _, _, _] rfl (rd_new _ [_, _, _, _] 5 (0, 0)) rfl (by simp [Value.oneCell']) (by rw [maxLen_eq]; omega) (by omega) (Nat.le_trans HB2.out.size (by unfold World.alloc; simp)) ?_; intro A3 c3 w3 hown3 hg3 hat3 hb3 hc3 hc3'; have HO3 := Lib.hid hown3; have HB3 := Lib.hid ((HB2.out.alloc HB2.out.size _).trans hb3); have HC3 := Lib.hid (And.intro hc3 hc3'); clear hown3 hg3 hat3 hb3 hc3 hc3'))
         go_roundw
         case rel =>
          refine ⟨2 + 1, u + 4, A3, c3, by omega, rfl, by have := HU.out; omega, rfl, HC3.out.1, by have := HC3.out.2; rw [maxLen_eq] at this; exact this, ?_, HB3.out⟩
          rw [show p.1.list.take (2 + 1) = p.1.list.take 2 ++ [p.1.c] from rfl, List.flatMap_append, List.flatMap_singleton]
          have n0 := nv_lo p.1.c
          have n1 := nv_hi p.1.c
          exact own_snocs HO3.out (wb_list p.1.c _ _ _ _ (by omega) (by omega) (by omega) (by omega))
         case measure => simp [intOf]
        ·
         go_wp2_with (first
          | (refine wl_index rfl 145 (.tmp 53) (.tmp 54) rfl (ac p.1) _ (.int .u32 (nv p.1.d)) rfl rfl (idx8 p.1 _ _ 3 (by decide) rfl) ?_)
          | (at_builtin; refine wl_app rfl (.tmp 57) (.tmp 69) 28 rfl wx.heap.size 5 1 1 bytesT _ u _ rfl (HO.out.alloc _) (_ + 1) (some ⟨_, 0, none⟩) 4 4 [_, _, _, _] rfl (rd_new _ [_, _, _, _] 5 (0, 0)) rfl (by simp [Value.oneCell']) (by rw [maxLen_eq]; omega) (by omega) (Nat.le_trans HB2.out.size (by unfold World.alloc; simp)) ?_; intro A3 c3 w3 hown3 hg3 hat3 hb3 hc3 hc3'; have HO3 := Lib.hid hown3; have HB3 := Lib.hid ((HB2.out.alloc HB2.out.size _).trans hb3); have HC3 := Lib.hid (And.intro hc3 hc3'); clear hown3 hg3 hat3 hb3 hc3 hc3'))
         go_roundw
         case rel =>
          refine ⟨3 + 1, u + 4, A3, c3, by omega, rfl, by have := HU.out; omega, rfl, HC3.out.1, by have := HC3.out.2; rw [maxLen_eq] at this; exact this, ?_, HB3.out⟩
          rw [show p.1.list.take (3 + 1) = p.1.list.take 3 ++ [p.1.d] from rfl, List.flatMap_append, List.flatMap_singleton]
          have n0 := nv_lo p.1.d
          have n1 := nv_hi p.1.d
          exact own_snocs HO3.out (wb_list p.1.d _ _ _ _ (by omega) (by omega) (by omega) (by omega))
         case measure => simp [intOf]
        ·
         go_wp2_with (first
          | (refine wl_index rfl 145 (.tmp 53) (.tmp 54) rfl (ac p.1) _ (.int .u32 (nv p.1.e)) rfl rfl (idx8 p.1 _ _ 4 (by decide) rfl) ?_)
          | (at_builtin; refine wl_app rfl (.tmp 57) (.tmp 69) 28 rfl wx.heap.size 5 1 1 bytesT _ u _ rfl (HO.out.alloc _) (_ + 1) (some ⟨_, 0, none⟩) 4 4 [_, _, _, _] rfl (rd_new _ [_, _, _, _] 5 (0, 0)) rfl (by simp [Value.oneCell']) (by rw [maxLen_eq]; omega) (by omega) (Nat.le_trans HB2.out.size (by unfold World.alloc; simp)) ?_; intro A3 c3 w3 hown3 hg3 hat3 hb3 hc3 hc3'; have HO3 := Lib.hid hown3; have HB3 := Lib.hid ((HB2.out.alloc HB2.out.size _).trans hb3); have HC3 := Lib.hid (And.intro hc3 hc3'); clear hown3 hg3 hat3 hb3 hc3 hc3'))
         go_roundw
         case rel =>
          refine ⟨4 + 1, u + 4, A3, c3, by omega, rfl, by have := HU.out; omega, rfl, HC3.out.1, by have := HC3.out.2; rw [maxLen_eq] at this; exact this, ?_, HB3.out⟩
          rw [show p.1.list.take (4 + 1) = p.1.list.take 4 ++ [p.1.e] from rfl, List.flatMap_append, List.flatMap_singleton]
          have n0 := nv_lo p.1.e
          have n1 := nv_hi p.1.e
          exact own_snocs HO3.out (wb_list p.1.e _ _ _ _ (by omega) (by omega) (by omega) (by omega))
         case measure => simp [intOf]
        ·
         go_wp2_with (first
          | (refine wl_index rfl 145 (.tmp 53) (.tmp 54) rfl (ac p.1) _ (.int .u32 (nv p.1.f)) rfl rfl (idx8 p.1 _ _ 5 (by decide) rfl) ?_)
          | (at_builtin; refine wl_app rfl (.tmp 57) (.tmp 69) 28 rfl wx.heap.size 5 1 1 bytesT _ u _ rfl (HO.out.alloc _) (_ + 1) (some ⟨_, 0, none⟩) 4 4 [_, _, _, _] rfl (rd_new _ [_, _, _, _] 5 (0, 0)) rfl (by simp [Value.oneCell']) (by rw [maxLen_eq]; omega) (by omega) (Nat.le_trans HB2.out.size (by unfold World.alloc; simp)) ?_; intro A3 c3 w3 hown3 hg3 hat3 hb3 hc3 hc3'; have HO3 := Lib.hid hown3; have HB3 := Lib.hid ((HB2.out.alloc HB2.out.size _).trans hb3); have HC3 := Lib.hid (And.intro hc3 hc3'); clear hown3 hg3 hat3 hb3 hc3 hc3'))
         go_roundw
         case rel =>
          refine ⟨5 + 1, u + 4, A3, c3, by omega, rfl, by have := HU.out; omega, rfl, HC3.out.1, by have := HC3.out.2; rw [maxLen_eq] at this; exact this, ?_, HB3.out⟩
          rw [show p.1.list.take (5 + 1) = p.1.list.take 5 ++ [p.1.f] from rfl, List.flatMap_append, List.flatMap_singleton]
          have n0 := nv_lo p.1.f
          have n1 := nv_hi p.1.f
          exact own_snocs HO3.out (wb_list p.1.f _ _ _ _ (by omega) (by omega) (by omega) (by omega))
         case measure => simp [intOf]
        ·
         go_wp2_with (first
          | (refine wl_index rfl 145 (.tmp 53) (.tmp 54) rfl (ac p.1) _ (.int .u32 (nv p.1.g)) rfl rfl (idx8 p.1 _ _ 6 (by decide) rfl) ?_)
          | (at_builtin; refine wl_app rfl (.tmp 57) (.tmp 69) 28 rfl wx.heap.size 5 1 1 bytesT _ u _ rfl (HO.out.alloc _) (_ + 1) (some ⟨_, 0, none⟩) 4 4 [_, _, _, _] rfl (rd_new _ [_, _, _, _] 5 (0, 0)) rfl (by simp [Value.oneCell']) (by rw [maxLen_eq]; omega) (by omega) (Nat.le_trans HB2.out.size (by unfold World.alloc; simp)) ?_; intro A3 c3 w3 hown3 hg3 hat3 hb3 hc3 hc3'; have HO3 := Lib.hid hown3; have HB3 := Lib.hid ((HB2.out.alloc HB2.out.size _).trans hb3); have HC3 := Lib.hid (And.intro hc3 hc3'); clear hown3 hg3 hat3 hb3 hc3 hc3'))
         go_roundw
         case rel =>
          refine ⟨6 + 1, u + 4, A3, c3, by omega, rfl, by have := HU.out; omega, rfl, HC3.out.1, by have := HC3.out.2; rw [maxLen_eq] at this; exact this, ?_, HB3.out⟩
          rw [show p.1.list.take (6 + 1) = p.1.list.take 6 ++ [p.1.g] from rfl, List.flatMap_append, List.flatMap_singleton]
          have n0 := nv_lo p.1.g
          have n1 := nv_hi p.1.g
          exact own_snocs HO3.out (wb_list p.1.g _ _ _ _ (by omega) (by omega) (by omega) (by omega))
         case measure => simp [intOf]
        ·
         go_wp2_with (first
          | (refine wl_index rfl 145 (.tmp 53) (.tmp 54) rfl (ac p.1) _ (.int .u32 (nv p.1.h)) rfl rfl (idx8 p.1 _ _ 7 (by decide) rfl) ?_)
          | (at_builtin; refine wl_app rfl (.tmp 57) (.tmp 69) 28 rfl wx.heap.size 5 1 1 bytesT _ u _ rfl (HO.out.alloc _) (_ + 1) (some ⟨_, 0, none⟩) 4 4 [_, _, _, _] rfl (rd_new _ [_, _, _, _] 5 (0, 0)) rfl (by simp [Value.oneCell']) (by rw [maxLen_eq]; omega) (by omega) (Nat.le_trans HB2.out.size (by unfold World.alloc; simp)) ?_; intro A3 c3 w3 hown3 hg3 hat3 hb3 hc3 hc3'; have HO3 := Lib.hid hown3; have HB3 := Lib.hid ((HB2.out.alloc HB2.out.size _).trans hb3); have HC3 := Lib.hid (And.intro hc3 hc3'); clear hown3 hg3 hat3 hb3 hc3 hc3'))
         go_roundw
         case rel =>
          refine ⟨7 + 1, u + 4, A3, c3, by omega, rfl, by have := HU.out; omega, rfl, HC3.out.1, by have := HC3.out.2; rw [maxLen_eq] at this; exact this, ?_, HB3.out⟩
          rw [show p.1.list.take (7 + 1) = p.1.list.take 7 ++ [p.1.h] from rfl, List.flatMap_append, List.flatMap_singleton]
          have n0 := nv_lo p.1.h
          have n1 := nv_hi p.1.h
          exact own_snocs HO3.out (wb_list p.1.h _ _ _ _ (by omega) (by omega) (by omega) (by omega))
         case measure => simp [intOf]
       ·
        obtain rfl : k = 8 := by omega
        have HLN := HO.out.1
        have hql : p.1.list.take 8 = p.1.list := rfl
        have hrd := Rd.of_own HO.out
        rw [hql] at hrd
        have hend : (p.1.list.flatMap Sha.wordBytes) = Sha.end_ (endS s N rest.length) (endR rest N rest.length) (endN N rest.length).toNat := by
         obtain ⟨x1, x2, x3⟩ := HE.out
         rw [← x1, ← x2, ← x3, HNN.out]
         unfold Sha.end_ Sha.St.bytes
         rw [Int.toNat_natCast, HP.out]
        have HEND := Lib.hid hend
        have HRD := Lib.hid hrd
        have hlen : (p.1.list.flatMap Sha.wordBytes).length = u := by have := HU.out; rw [this]; rfl
        have HLEN := Lib.hid hlen
        have HB9 := Lib.hid (HX.out.below.trans (HB2.out.mono HX.out.below.size))
        clear hrd hql hend hlen HLN
        go_wp2_with (first
         | (refine wl_str rfl 28 9 (.tmp 72) rfl 5 Tryz.underlying28 Tryz.underlying5 Tryz.underlying9 A2 u c2 rfl _ (p.1.list.flatMap Sha.wordBytes) HRD.out HLEN.out ?_))
        go_ret
        exact ⟨by rw [← HEND.out]; rfl, HB9.out⟩
   ·
    have hj2 := zeros_lt n1 j hs hj (by rw [← ht]; exact h56)
    have HT := Lib.hid ht
    have HJ2 := Lib.hid hj2
    clear hown hbel hj ht hj2
    go_wp2_with (first
     | (at_builtin; refine wl_app rfl (.tmp 25) (.tmp 26) 28 rfl wx.heap.size 5 1 1 bytesT _ t _ rfl (HO.out.alloc _) (wr.heap.size + 1) (some ⟨wr.heap.size, 0, none⟩) 1 1 ([0].map bv) rfl (rd_new wr ([0].map bv) 5 (0, 0)) rfl (by simp [bv, Value.oneCell']) (by rw [maxLen_eq]; omega) (by omega) (Nat.le_trans HB.out.size (by unfold World.alloc; simp)) ?_; intro A3 c3 w3 hown3 hg3 hat3 hb3 hc3 hc3'; rw [← List.map_append] at hown3; have HO3 := Lib.hid hown3; have HB3 := Lib.hid ((HB.out.alloc HB.out.size _).trans hb3); have HC3 := Lib.hid (And.intro hc3 hc3'); clear hown3 hg3 hat3 hb3 hc3 hc3'))
    go_roundw
    case rel => exact ⟨j + 1, t + 1, A3, c3, by have := HT.out; omega, rfl, HC3.out.1, by have := HC3.out.2; rw [maxLen_eq] at this; exact this, HJ2.out, by have h := HO3.out; rw [List.append_assoc, ← List.replicate_succ'] at h; exact h, HB3.out⟩
    case measure => simp; omega
 clear h1
 have hbox : TRow (w.alloc (.cells (tc s (.slice A n c) N).toArray 147)) w.heap.size s (.slice A n c) N := row_new w _ _
 have hbl : Below w.heap.size w (w.alloc (.cells (tc s (.slice A n c) N).toArray 147)) := (Below.refl _ w).alloc (Nat.le_refl _) _
 have HBX := Lib.hid (And.intro hbox hbl)
 clear hbox hbl
 generalize hW : World.alloc w _ = W0
 have hbx : TRow W0 w.heap.size s (.slice A n c) N := by rw [← hW]; exact HBX.out.1
 have hbl : Below w.heap.size w W0 := by rw [← hW]; exact HBX.out.2
 have HW := Lib.hid (And.intro hbx hbl)
 have HBL := Lib.hid (hBL.below hbl (Nat.le_refl _))
 have HKEY := Lib.hid key
 have HA := Lib.hid (And.intro hA hn)
 obtain ⟨c0, c1, c2, c3, c4, c5, c6, c7, c8, c9⟩ := hbx.ten
 clear hW hbx hbl hBL hRL hA hn key HBX
 by_cases hv : vld N n = true
 ·
  have hv' : 0 ≤ N ∧ N ≤ 1099511627776 ∧ (n : Int) = N % 64 := by
   have := hv
   unfold vld at this
   exact of_decide_eq_true this
  have HVV := Lib.hid (And.intro hv hv')
  clear hv hv'
  go_wp2_with (go_at_call 133; refine (HV.out _).mono ?_; rintro e w1 ⟨rfl, hb1⟩; rw [HVV.out.1]; have HB1 := Lib.hid hb1; clear hb1 c0 c1 c2 c3 c4 c5 c6 c7 c8 c9)
  obtain ⟨hbx, hbl⟩ := HW.out
  obtain ⟨hv, v1, v2, v3⟩ := HVV.out
  have htk : vld N rest.length = true := by rw [HA.out.2]; exact hv
  refine HKEY.out s A n c rest N _ _ _ _ w1 ?_ (by unfold endS; rw [htk]; rfl) (by unfold endR; rw [htk]; rfl) (by unfold endN; rw [htk]; rfl)
  have hb := HB1.out
  exact ⟨hbl.trans (hb.mono hbl.size), Row.belowS hbx hb (Nat.le_refl _), HA.out.1.below (hbl.trans (hb.mono hbl.size)), HA.out.2, hc, by rw [maxLen_eq]; exact hm, by omega, v1, v2⟩
 ·
  have hv' : vld N n = false := by simpa using hv
  have HVV := Lib.hid hv'
  clear hv hv'
  have new : ∀ w1 : World, Below W0.heap.size W0 w1 → ∀ w2 : World, Below w1.heap.size w1 w2 → TRow w2 w.heap.size s (.slice A n c) N ∧
    ∀ (u11 u12 u13 u14 : Value), K1 { tmps := #[tv s (.slice A n c) N, .pointer (some ⟨w.heap.size, 0, none⟩), .string { data := #[] }, undef, undef, undef, undef, undef, undef, undef, undef, u11, u12, u13, u14, undef, undef, undef, undef, undef, undef, undef, undef, undef, undef, undef, undef, undef, undef, undef, undef, undef, undef, undef, undef, undef, undef, undef, undef, undef, undef, undef, undef, undef, undef, undef, undef, undef, undef, undef, undef, undef, undef, undef, undef, undef, undef, undef, undef, undef, undef, undef, undef, undef, undef, undef, undef, undef, undef, undef, undef, undef, undef, undef], defers := [] } (setFrom w.heap.size w2 0 (tc Sha.begin_ (.slice none 0 0) 0)) := by
   intro w1 hb1 w2 hb2
   obtain ⟨hbx, hbl⟩ := HW.out
   have hb02 : Below W0.heap.size W0 w2 := hb1.trans (hb2.mono hb1.size)
   have hbox2 := Row.belowS hbx hb02 (Nat.le_refl _)
   have htk : vld N rest.length = false := by rw [HA.out.2]; exact HVV.out
   refine ⟨hbox2, fun u11 u12 u13 u14 => HKEY.out Sha.begin_ none 0 0 [] 0 u11 u12 u13 u14 _ ?_ (by unfold endS; rw [htk]; rfl) (by unfold endR; rw [htk]; rfl) (by unfold endN; rw [htk]; rfl)⟩
   exact ⟨below_setFrom (Nat.le_refl _) _ 0 (hbl.trans (hb02.mono hbl.size)), Row.all hbox2 _ rfl, Rd.nil, rfl, Nat.le_refl _, Nat.zero_le _, by decide, by decide, by decide⟩
  have HNEW := Lib.hid new
  clear new
  go_wp2_with (first
   | (go_at_call 133; refine (HV.out _).mono ?_; rintro e w1 ⟨rfl, hb1⟩; rw [HVV.out]; have HB1 := Lib.hid hb1; clear hb1 c0 c1 c2 c3 c4 c5 c6 c7 c8 c9)
   | (go_at_call 113; refine (new_any w1 (HBL.out.below HB1.out (Nat.le_refl _))).mono ?_; rintro e w2 ⟨rfl, hb2⟩; obtain ⟨hrow, HFIN⟩ := HNEW.out w1 HB1.out w2 hb2; obtain ⟨y0, y1, y2, y3, y4, y5, y6, y7, y8, y9⟩ := hrow.ten; have z := hrow.frozen; have z0 := z 0; have z1 := z 1; have z2 := z 2; have z3 := z 3; have z4 := z 4; have z5 := z 5; have z6 := z 6; have z7 := z 7; have z8 := z 8; have z9 := z 9; have HFI := Lib.hid HFIN; clear HFIN hrow z hb2))
  have hk := HFI.out
  simp only [tc, setFrom, Nat.zero_add, Nat.reduceAdd] at hk
  exact hk _ _ _ _
def SumPost (l : List UInt8) (w : World) (e : Ending) (w' : World) : Prop := e = .returned (sv (Sha.sum l)) ∧ Below w.heap.size w w'
theorem vld_of (m : Nat) (h : m ≤ 1099511627776) : vld (m : Int) (m % 64) = true := by
 unfold vld
 exact decide_eq_true ⟨by omega, by omega, by omega⟩
theorem takes_new (m : Nat) (h : m ≤ 1099511627776) : takes 0 0 m = true := by
 unfold takes
 rw [show vld 0 0 = true from vld_of 0 (by omega)]
 simpa using (by omega : (m : Int) ≤ 1099511627776)
theorem sum_any (B : Option Addr) (m k : Nat) (l : List UInt8) (w : World) (hB : Rd w w.heap.size B (l.map bv)) (hl : l.length = m) (hk : m ≤ k) (hk2 : k ≤ maxLen) (hm2 : m ≤ 1099511627776) (hRL : RoundsLie w) (hBL : BeginLies w) :
  Calls Tryz.prog 63 #[.slice B m k] w (SumPost l w) := by
 have HL := Lib.hid (And.intro hB (And.intro hRL hBL))
 subst hl
 clear hB hRL hBL
 go_enter Tryz.func63, Tryz.ntmps63
 go_wp2_with (first
  | (go_at_call 113; refine (new_any _ HL.out.2.2).mono ?_; rintro e w1 ⟨rfl, hb1⟩; have HB1 := Lib.hid hb1; clear hb1)
  | (go_at_call 112; refine (add_any Sha.begin_ none 0 0 [] 0 B l.length k l w1 Rd.nil rfl (Nat.le_refl _) (Nat.zero_le _) (HL.out.1.below' HB1.out (Nat.le_refl _) |>.more HB1.out.size) rfl hk hk2 hm2 (HL.out.2.1.below HB1.out (Nat.le_refl _)) (HL.out.2.2.below HB1.out (Nat.le_refl _))).mono ?_; rintro e w2 ⟨p, hp, A2, c2, rfl, hr2, hc2, hc2', hb2⟩; have HP := Lib.hid hp; have HR2 := Lib.hid (And.intro hr2 (And.intro hc2 hc2')); have HB2 := Lib.hid (HB1.out.trans (hb2.mono HB1.out.size)); clear hp hr2 hc2 hc2' hb2)
  | (go_at_call 111; refine (end_any p.1 A2 p.2.length c2 p.2 _ w2 HR2.out.1 rfl HR2.out.2.1 HR2.out.2.2 (HL.out.2.1.below HB2.out (Nat.le_refl _)) (HL.out.2.2.below HB2.out (Nat.le_refl _))).mono ?_; rintro e w3 ⟨rfl, hb3⟩; have HB3 := Lib.hid (HB2.out.trans (hb3.mono HB2.out.size)); clear hb3))
 go_ret
 refine ⟨?_, HB3.out⟩
 have hp := HP.out
 have ht := takes_new l.length hm2
 have e1 : effS Sha.begin_ 0 ([] : List UInt8).length l.length = Sha.begin_ := by unfold effS; rw [show takes 0 ([] : List UInt8).length l.length = true from ht]; rfl
 have e2 : effR [] 0 ([] : List UInt8).length l.length = [] := by unfold effR; rw [show takes 0 ([] : List UInt8).length l.length = true from ht]; rfl
 have e3 : effN 0 0 l.length = 0 := by unfold effN; rw [ht]; rfl
 rw [e1, e2, List.nil_append] at hp
 have hv : vld (l.length : Int) p.2.length = true := by
  rw [hp, Sha.proc_rest]; exact vld_of _ hm2
 rw [e3, Int.zero_add]
 have e4 : endS p.1 (l.length : Int) p.2.length = p.1 := by unfold endS; rw [hv]; rfl
 have e5 : endR p.2 (l.length : Int) p.2.length = p.2 := by unfold endR; rw [hv]; rfl
 have e6 : endN (l.length : Int) p.2.length = (l.length : Int) := by unfold endN; rw [hv]; rfl
 show Ending.returned (sv _) = _
 rw [e4, e5, e6, Int.toNat_natCast]
 unfold Sha.sum
 rw [← hp]
end Go.Proofs.YteoledjllpgcbaaGreatDoor
