/- The walk of sha.block. -/
import Derived.Test.YtoiilhbjlfdfpaaDoorU32
import Derived.BigRegion
namespace Go.Proofs.YtoiilhbjlfdfpaaDoor
set_option linter.unusedVariables false
open Go.RowKit

theorem info_u32 : (Tryd.prog.info? 67).map (fun i => (i.zero, i.size, i.bytes)) = some (some (.int .u32 0), 1, 4) := by kernel_rfl
/-- Words as cells. -/
def wc (l : List UInt32) : List Value := l.map fun x => .int .u32 (nv x)
/-- Eight words as one value. -/
abbrev av (s : Sha.St) : Value := .agg #[.int .u32 (nv s.a), .int .u32 (nv s.b), .int .u32 (nv s.c), .int .u32 (nv s.d), .int .u32 (nv s.e), .int .u32 (nv s.f), .int .u32 (nv s.g), .int .u32 (nv s.h)]
def BlockPost (s : Sha.St) (l : List UInt8) (w : World) (e : Ending) (w' : World) : Prop := e = .returned (av (Sha.block s l)) ∧ Below w.heap.size w w'
@[irreducible] def sw (l : List UInt8) (j : Nat) : UInt32 := (Sha.sched l 64).getD j 0
/-- The world within a block's computation: its eight words, the result's variable, the first k words of the schedule. -/
structure BRel (s : Sha.St) (l : List UInt8) (w : World) (k : Nat) (wr : World) : Prop where
  below : Below w.heap.size w wr
  size : w.heap.size + 3 ≤ wr.heap.size
  st0 : wr.cell? ⟨w.heap.size, 0, none⟩ = some (.int .u32 (nv s.a))
  st1 : wr.cell? ⟨w.heap.size, 1, none⟩ = some (.int .u32 (nv s.b))
  st2 : wr.cell? ⟨w.heap.size, 2, none⟩ = some (.int .u32 (nv s.c))
  st3 : wr.cell? ⟨w.heap.size, 3, none⟩ = some (.int .u32 (nv s.d))
  st4 : wr.cell? ⟨w.heap.size, 4, none⟩ = some (.int .u32 (nv s.e))
  st5 : wr.cell? ⟨w.heap.size, 5, none⟩ = some (.int .u32 (nv s.f))
  st6 : wr.cell? ⟨w.heap.size, 6, none⟩ = some (.int .u32 (nv s.g))
  st7 : wr.cell? ⟨w.heap.size, 7, none⟩ = some (.int .u32 (nv s.h))
  res : ∃ cs, wr.heap[w.heap.size + 1]? = some (.cells cs 68 (0, 0)) ∧ cs.size = 8
  room : ∀ j, j < 64 → ∃ v, wr.cell? ⟨w.heap.size + 1 + 1, j, none⟩ = some v
  frz : ∀ j, j < 64 → wr.frozen? ⟨w.heap.size + 1 + 1, j, none⟩ = false
  done : ∀ j, j < k → wr.cell? ⟨w.heap.size + 1 + 1, j, none⟩ = some (.int .u32 (nv (sw l j)))
theorem BRel.drew {s : Sha.St} {l : List UInt8} {w wr : World} {k : Nat} (h : BRel s l w k wr) : BRel s l w k wr.drew :=
  ⟨h.below.drew, h.size, h.st0, h.st1, h.st2, h.st3, h.st4, h.st5, h.st6, h.st7, h.res, h.room, h.frz, h.done⟩
theorem BRel.drewN {s : Sha.St} {l : List UInt8} {w wr : World} {k : Nat} (n : Nat) (h : BRel s l w k wr) : BRel s l w k (wr.drewN n) :=
  ⟨⟨h.below.os, h.below.tape, h.below.output, h.below.size, h.below.block⟩, h.size, h.st0, h.st1, h.st2, h.st3, h.st4, h.st5, h.st6, h.st7, h.res, h.room, h.frz, h.done⟩
theorem BRel.set {s : Sha.St} {l : List UInt8} {w wr : World} {k : Nat} (h : BRel s l w k wr) (hk : k < 64) (x : UInt32) (hx : x = sw l k) :
    BRel s l w (k + 1) (wr.setCell ⟨w.heap.size + 1 + 1, k, none⟩ (.int .u32 (nv x))) := by
  subst hx
  obtain ⟨v0, hv0⟩ := h.room k hk
  obtain ⟨u, hu⟩ : ∃ u, u = Value.int .u32 (nv (sw l k)) := ⟨_, rfl⟩
  rw [← hu]
  have far : ∀ (q : Nat) (v : Value), wr.cell? ⟨w.heap.size, q, none⟩ = some v → (wr.setCell ⟨w.heap.size + 1 + 1, k, none⟩ u).cell? ⟨w.heap.size, q, none⟩ = some v := fun q v hv => by
    rw [World.cell?_setCell_far _ _ _ _ (by show w.heap.size + 1 + 1 ≠ w.heap.size; omega)]
    exact hv
  refine ⟨h.below.setCell (by show w.heap.size ≤ w.heap.size + 1 + 1; omega) _, by rw [World.size_setCell]; exact h.size, far 0 _ h.st0, far 1 _ h.st1, far 2 _ h.st2, far 3 _ h.st3, far 4 _ h.st4, far 5 _ h.st5, far 6 _ h.st6, far 7 _ h.st7, ?_, ?_, ?_, ?_⟩
  · obtain ⟨cs, h1, h2⟩ := h.res
    exact ⟨cs, (Below.heap_setCell _ _ _ _ (by show w.heap.size + 1 ≠ w.heap.size + 1 + 1; omega)).trans h1, h2⟩
  · intro j hj
    obtain ⟨v, hv⟩ := h.room j hj
    by_cases e : j = k
    · subst e; exact ⟨_, World.cell?_setCell_same _ _ _ hv⟩
    · exact ⟨v, (World.cell?_setCell_other _ _ _ _ (fun e' => e (by injection e' with _ e'; exact e'.symm))).trans hv⟩
  · intro j hj
    rw [World.frozen?_setCell]
    exact h.frz j hj
  · intro j hj
    by_cases e : j = k
    · subst e; rw [← hu]; exact World.cell?_setCell_same _ _ _ hv0
    · exact (World.cell?_setCell_other _ _ _ _ (fun e' => e (by injection e' with _ e'; exact e'.symm))).trans (h.done j (by omega))
/-- The word of four bytes, as the walk tells it. -/
theorem word_bits (l : List UInt8) (b0 b1 b2 b3 : UInt8) (k : Nat) (hk : k < 16) (h0 : l[4 * k]? = some b0) (h1 : l[4 * k + 1]? = some b1) (h2 : l[4 * k + 2]? = some b2) (h3 : l[4 * k + 3]? = some b3) :
    (b0.toUInt32 <<< 24) ||| (b1.toUInt32 <<< 16) ||| (b2.toUInt32 <<< 8) ||| b3.toUInt32 = sw l k := by
  unfold sw
  rw [Sha.sched_get l k 64 (by omega), Sha.nextW, if_pos hk, Sha.word]
  simp only [List.getD, h0, h1, h2, h3, Option.getD_some]
theorem word_val (b0 b1 b2 b3 : UInt8) (x : UInt32) (h : (b0.toUInt32 <<< 24) ||| (b1.toUInt32 <<< 16) ||| (b2.toUInt32 <<< 8) ||| b3.toUInt32 = x) :
    bits .or .u32 (bits .or .u32 (bits .or .u32 (nv b0.toUInt32 % 4294967296 * 16777216 % 4294967296) (nv b1.toUInt32 % 4294967296 * 65536 % 4294967296)) (nv b2.toUInt32 % 4294967296 * 256 % 4294967296)) (nv b3.toUInt32 % 4294967296) = nv x := by
  rw [nv_mod, nv_mod, nv_mod, nv_mod, nv_shl b0.toUInt32 24 (by decide) 16777216 (by decide), nv_shl b1.toUInt32 16 (by decide) 65536 (by decide), nv_shl b2.toUInt32 8 (by decide) 256 (by decide), nv_or, nv_or, nv_or]
  exact congrArg nv h
theorem start_rel (s : Sha.St) (l : List UInt8) (w : World) : BRel s l w 0 (((w.alloc (.cells #[.int .u32 (nv s.a), .int .u32 (nv s.b), .int .u32 (nv s.c), .int .u32 (nv s.d), .int .u32 (nv s.e), .int .u32 (nv s.f), .int .u32 (nv s.g), .int .u32 (nv s.h)] 68)).alloc (.cells (Array.replicate 8 (.int .u32 0)) 68)).alloc (.cells (Array.replicate 64 (.int .u32 0)) 92)) := by
  generalize hA : (Obj.cells #[.int .u32 (nv s.a), .int .u32 (nv s.b), .int .u32 (nv s.c), .int .u32 (nv s.d), .int .u32 (nv s.e), .int .u32 (nv s.f), .int .u32 (nv s.g), .int .u32 (nv s.h)] 68) = OA
  have s1 : (w.alloc OA).heap.size = w.heap.size + 1 := by unfold World.alloc; simp
  obtain ⟨O2, h2⟩ : ∃ O, O = Obj.cells (Array.replicate 8 (.int .u32 0)) 68 := ⟨_, rfl⟩
  obtain ⟨O3, h3⟩ : ∃ O, O = Obj.cells (Array.replicate 64 (.int .u32 0)) 92 := ⟨_, rfl⟩
  rw [← h2, ← h3]
  have s2 : ((w.alloc OA).alloc O2).heap.size = w.heap.size + 1 + 1 := by unfold World.alloc; simp
  have s3 : (((w.alloc OA).alloc O2).alloc O3).heap.size = w.heap.size + 1 + 1 + 1 := by unfold World.alloc; simp
  have st : ∀ (q : Nat) (v : Value), (w.alloc OA).cell? ⟨w.heap.size, q, none⟩ = some v → (((w.alloc OA).alloc O2).alloc O3).cell? ⟨w.heap.size, q, none⟩ = some v := fun q v hv => by
    rw [World.cell?_alloc_lt _ _ _ (by rw [s2]; show w.heap.size < _; omega), World.cell?_alloc_lt _ _ _ (by rw [s1]; show w.heap.size < _; omega)]
    exact hv
  have wcell : ∀ j, j < 64 → (((w.alloc OA).alloc O2).alloc O3).cell? ⟨w.heap.size + 1 + 1, j, none⟩ = some (.int .u32 0) := fun j hj => by
    rw [h3, ← s2, World.cell?_alloc_new]
    simp [hj]
  have wfrz : ∀ j, j < 64 → (((w.alloc OA).alloc O2).alloc O3).frozen? ⟨w.heap.size + 1 + 1, j, none⟩ = false := fun j hj => by
    rw [h3, ← s2, World.frozen?_alloc_new]
  refine ⟨(((Below.refl _ w).alloc (Nat.le_refl _) _).alloc (by rw [s1]; omega) _).alloc (by rw [s2]; omega) _, by rw [s3]; omega, st 0 _ ?_, st 1 _ ?_, st 2 _ ?_, st 3 _ ?_, st 4 _ ?_, st 5 _ ?_, st 6 _ ?_, st 7 _ ?_, ⟨Array.replicate 8 (.int .u32 0), ?_, by simp⟩, fun j hj => ⟨_, wcell j hj⟩, wfrz, fun j hj => by omega⟩
  all_goals first
    | (rw [← hA, World.cell?_alloc_new]; rfl)
    | (rw [Below.heap_alloc _ _ _ (by rw [s2]; omega), h2, ← s1]; generalize w.alloc OA = w1; show (w1.heap.push _)[w1.heap.size]? = _; simp)

theorem nv_shr3 (x : UInt32) : nv x / (8 : Int) = nv (x >>> 3) := nv_shr x 3 (by decide) 8 (by decide)
theorem nv_shr10 (x : UInt32) : nv x / (1024 : Int) = nv (x >>> 10) := nv_shr x 10 (by decide) 1024 (by decide)
theorem sw_step (l : List UInt8) (k : Nat) (h0 : 16 ≤ k) (h1 : k < 64) : sw l k = sw l (k - 16) + Sha.ls0 (sw l (k - 15)) + sw l (k - 7) + Sha.ls1 (sw l (k - 2)) := by
  have e : ∀ j, j < k → sw l j = (Sha.sched l k).getD j 0 := fun j hj => by
    unfold sw
    rw [Sha.sched_get l j 64 (by omega), Sha.sched_get l j k hj]
  rw [e (k - 16) (by omega), e (k - 15) (by omega), e (k - 7) (by omega), e (k - 2) (by omega)]
  unfold sw
  rw [Sha.sched_get l k 64 h1, Sha.nextW, if_neg (by omega)]
theorem nv_compl (x : UInt32) : bits .xor .u32 IntKind.u32.max (nv x) = nv (~~~x) := by
  have h : IntKind.u32.max = nv 4294967295 := by decide
  rw [h, nv_xor, ← UInt32.neg_one_xor]
  rfl
theorem nv_add4 (a b c d : UInt32) : (nv a + nv b + nv c + nv d) % 4294967296 = nv (a + b + c + d) := by
  rw [← nv_add, ← nv_add, ← nv_add]; omega
theorem nv_add5 (a b c d e : UInt32) : (nv a + nv b + nv c + nv d + nv e) % 4294967296 = nv (a + b + c + d + e) := by
  rw [← nv_add, ← nv_add, ← nv_add, ← nv_add]; omega
theorem val_next (x0 x1 x2 x3 : UInt32) :
    (nv x0 + bits .xor .u32 (nv (Sha.rotr x1 7 ^^^ Sha.rotr x1 18)) (nv x1 / 8) + nv x2 + bits .xor .u32 (nv (Sha.rotr x3 17 ^^^ Sha.rotr x3 19)) (nv x3 / 1024)) % 4294967296 = nv (x0 + Sha.ls0 x1 + x2 + Sha.ls1 x3) := by
  rw [nv_shr3, nv_shr10, nv_xor, nv_xor, nv_add4]; rfl
/-- The constant of a round; nothing is reckoned. -/
@[irreducible] def cst (j : Nat) : UInt32 := Sha.consts.getD j 0
/-- The state behind k rounds. -/
@[irreducible] def rs (s : Sha.St) (l : List UInt8) (k : Nat) : Sha.St := Sha.rounds (Sha.sched l 64) s k
theorem rs_zero (s : Sha.St) (l : List UInt8) : rs s l 0 = s := by unfold rs; rfl
theorem rs_succ (s : Sha.St) (l : List UInt8) (k : Nat) : rs s l (k + 1) = Sha.round (rs s l k) (cst k) (sw l k) := by unfold rs cst sw; rfl
theorem rs_all (s : Sha.St) (l : List UInt8) : Sha.block s l = s.add (rs s l 64) := by unfold rs Sha.block; rfl
/-- The constants of the rounds lie as they are written. -/
def RoundsLie (w : World) : Prop := 1 < w.heap.size ∧ ∀ j, j < 64 → w.cell? ⟨1, j, none⟩ = some (.int .u32 (nv (cst j)))
attribute [local go_sem] nv_xor nv_and nv_or nv_add nv_compl

set_option maxRecDepth 100000 in
set_option maxHeartbeats 4000000 in
theorem block_any (s : Sha.St) (A : Option Addr) (c : Nat) (l : List UInt8) (hl : l.length = 64) (B : Nat) (w : World) (hr : Rd w B A (l.map bv)) (hB : B ≤ w.heap.size) (hk : RoundsLie w) :
    Calls Tryd.prog 74 #[av s, .slice A 64 c] w (BlockPost s l w) := by
  have hl0 : l.map bv ≠ [] := fun h => by
    have := congrArg List.length h
    simp [hl] at this
  obtain ⟨b, off, rfl, hb, hc⟩ := hr hl0
  have HC := Lib.hid hc
  have HK := Lib.hid hk
  clear hk
  clear hc hr
  go_enter Tryd.func74, Tryd.ntmps74
  go_wp2
  go_loopw [26] (fun i wr => ∃ k : Nat, k ≤ 16 ∧ i = .int .i64 k ∧ BRel s l w k wr) (fun i _ => 16 - (intOf i).toNat)
  case atStart => exact ⟨0, by omega, rfl, start_rel s l w⟩
  case round =>
    obtain ⟨k, hk16, rfl, h⟩ := hrel
    have HR := Lib.hid h
    by_cases hk : k < 16
    · obtain ⟨b0, h0⟩ : ∃ x, l[4 * k]? = some x := ⟨_, List.getElem?_eq_getElem (by omega)⟩
      obtain ⟨b1, h1⟩ : ∃ x, l[4 * k + 1]? = some x := ⟨_, List.getElem?_eq_getElem (by omega)⟩
      obtain ⟨b2, h2⟩ : ∃ x, l[4 * k + 2]? = some x := ⟨_, List.getElem?_eq_getElem (by omega)⟩
      obtain ⟨b3, h3⟩ : ∃ x, l[4 * k + 3]? = some x := ⟨_, List.getElem?_eq_getElem (by omega)⟩
      have rdc : ∀ j x, l[j]? = some x → wr.cell? ⟨b, off + j, none⟩ = some (.int .u8 (nv x.toUInt32)) := fun j x hx => by
        rw [h.below.cell (p := ⟨b, off + j, none⟩) (by show b < _; omega), ← nv_u8]
        exact HC.out j _ (by rw [List.getElem?_map, hx]; rfl)
      have c0 := rdc _ _ h0
      have c1 := rdc _ _ h1
      have c2 := rdc _ _ h2
      have c3 := rdc _ _ h3
      obtain ⟨v4, c4⟩ := h.room k (by omega)
      have HW := Lib.hid (word_bits l b0 b1 b2 b3 k hk h0 h1 h2 h3)
      clear h h0 h1 h2 h3 rdc
      go_wp2_with fail
      have HV := Lib.hid (word_val b0 b1 b2 b3 _ HW.out)
      have f4 : wr.frozen? ⟨w.heap.size + 1 + 1, k, none⟩ = false := HR.out.frz k (by omega)
      go_region
      go_wp2
      go_roundw
      case rel => exact ⟨k + 1, by omega, by go_num, by rw [HV.out]; exact (HR.out.set (by omega) _ rfl).drew⟩
      case measure => simp [intOf]; omega
    · have HR1 := Lib.hid (show BRel s l w 16 wr from (show k = 16 by omega) ▸ h)
      clear h HR
      go_wp2
      go_loopw [7] (fun i wr => ∃ k : Nat, 16 ≤ k ∧ k ≤ 64 ∧ i = .int .i64 k ∧ BRel s l w k wr) (fun i _ => 64 - (intOf i).toNat)
      case atStart => exact ⟨16, by omega, by omega, rfl, HR1.out⟩
      clear HR1
      case round =>
        obtain ⟨k, hk16, hk64, rfl, h⟩ := hrel
        have HR := Lib.hid h
        by_cases hk : k < 64
        · obtain ⟨x0, e0⟩ : ∃ x, sw l (k - 16) = x := ⟨_, rfl⟩
          obtain ⟨x1, e1⟩ : ∃ x, sw l (k - 15) = x := ⟨_, rfl⟩
          obtain ⟨x2, e2⟩ : ∃ x, sw l (k - 7) = x := ⟨_, rfl⟩
          obtain ⟨x3, e3⟩ : ∃ x, sw l (k - 2) = x := ⟨_, rfl⟩
          have c0 := h.done (k - 16) (by omega)
          have c1 := h.done (k - 15) (by omega)
          have c2 := h.done (k - 7) (by omega)
          have c3 := h.done (k - 2) (by omega)
          rw [e0] at c0
          rw [e1] at c1
          rw [e2] at c2
          rw [e3] at c3
          have hs := sw_step l k hk16 hk
          rw [e0, e1, e2, e3] at hs
          have HS := Lib.hid hs
          obtain ⟨v4, c4⟩ := h.room k (by omega)
          have f4 := h.frz k (by omega)
          have t1 := nv_shr3 x1
          have t3 := nv_shr10 x3
          clear h e0 e1 e2 e3 hs
          go_wp2_with fail
          go_region
          go_wp2_with (first | (go_at_call 76; with_reducible refine (rot_7 _ _).mono ?_; rintro e w' ⟨rfl, rfl⟩) | (go_at_call 76; with_reducible refine (rot_18 _ _).mono ?_; rintro e w' ⟨rfl, rfl⟩) | (go_at_call 76; with_reducible refine (rot_17 _ _).mono ?_; rintro e w' ⟨rfl, rfl⟩) | (go_at_call 76; with_reducible refine (rot_19 _ _).mono ?_; rintro e w' ⟨rfl, rfl⟩))
          go_region
          go_wp2
          go_roundw
          case rel => exact ⟨k + 1, by omega, by omega, by go_num, by first | exact (HR.out.set (by omega) _ HS.out.symm).drew.drew | (rw [val_next]; exact (HR.out.set (by omega) _ HS.out.symm).drew.drew)⟩
          case measure => simp [intOf]; omega
        · have HR2 := Lib.hid (show BRel s l w 64 wr from (show k = 64 by omega) ▸ h)
          have a0 := h.st0
          have a1 := h.st1
          have a2 := h.st2
          have a3 := h.st3
          have a4 := h.st4
          have a5 := h.st5
          have a6 := h.st6
          have a7 := h.st7
          clear h HR
          go_wp2_with fail
          go_quiet (fail)
          go_wp2_with fail
          go_quiet (fail)
          go_wp2_with fail
          generalize hwd : World.drewN (World.drewN wr _) _ = wd
          have HR3 := Lib.hid (show BRel s l w 64 wd from hwd ▸ (HR2.out.drewN _).drewN _)
          clear hwd HR2 a0 a1 a2 a3 a4 a5 a6 a7
          go_loopw [12, 13, 14, 15, 16, 17, 18, 19, 124] (fun v0 v1 v2 v3 v4 v5 v6 v7 i wr => ∃ (k : Nat) (r : Sha.St), k ≤ 64 ∧ i = .int .i64 k ∧ r = rs s l k ∧ v0 = .int .u32 (nv r.a) ∧ v1 = .int .u32 (nv r.b) ∧ v2 = .int .u32 (nv r.c) ∧ v3 = .int .u32 (nv r.d) ∧ v4 = .int .u32 (nv r.e) ∧ v5 = .int .u32 (nv r.f) ∧ v6 = .int .u32 (nv r.g) ∧ v7 = .int .u32 (nv r.h) ∧ BRel s l w 64 wr) (fun _ _ _ _ _ _ _ _ i _ => 64 - (intOf i).toNat)
          case atStart => exact ⟨0, s, by omega, rfl, (rs_zero s l).symm, rfl, rfl, rfl, rfl, rfl, rfl, rfl, rfl, HR3.out⟩
          clear HR3
          case round =>
            obtain ⟨k, ⟨a, b', c', d, e, f, g, h'⟩, hk64, rfl, hrs, rfl, rfl, rfl, rfl, rfl, rfl, rfl, rfl, h⟩ := hrel
            have HR := Lib.hid h
            have HRS := Lib.hid hrs
            by_cases hk : k < 64
            · obtain ⟨x, ex⟩ : ∃ x, sw l k = x := ⟨_, rfl⟩
              obtain ⟨y, ey⟩ : ∃ y, cst k = y := ⟨_, rfl⟩
              have c0 := h.done k hk
              have c1 : wr.cell? ⟨1, k, none⟩ = some (.int .u32 (nv (cst k))) := (h.below.cell (p := ⟨1, k, none⟩) HK.out.1).trans (HK.out.2 k hk)
              rw [ex] at c0
              rw [ey] at c1
              have HX := Lib.hid ex
              have HY := Lib.hid ey
              clear h ex ey hrs
              have HB := Lib.hid hk
              go_wp2_with (first | (go_at_call 76; with_reducible refine (rot_6 _ _).mono ?_; rintro e w' ⟨rfl, rfl⟩) | (go_at_call 76; with_reducible refine (rot_11 _ _).mono ?_; rintro e w' ⟨rfl, rfl⟩) | (go_at_call 76; with_reducible refine (rot_25 _ _).mono ?_; rintro e w' ⟨rfl, rfl⟩))
              go_quiet (fail)
              go_wp2_with (first | (go_at_call 76; with_reducible refine (rot_2 _ _).mono ?_; rintro e w' ⟨rfl, rfl⟩) | (go_at_call 76; with_reducible refine (rot_13 _ _).mono ?_; rintro e w' ⟨rfl, rfl⟩) | (go_at_call 76; with_reducible refine (rot_22 _ _).mono ?_; rintro e w' ⟨rfl, rfl⟩))
              go_roundw
              case rel => exact ⟨k + 1, Sha.round ⟨a, b', c', d, e, f, g, h'⟩ y x, by omega, by go_num, by rw [rs_succ, ← HRS.out, HX.out, HY.out], by rw [nv_add]; rfl, rfl, rfl, rfl, by rw [nv_add]; rfl, rfl, rfl, rfl, HR.out.drewN _⟩
              case measure => simp [intOf]; omega
            · have HF := Lib.hid (show Sha.St.mk a b' c' d e f g h' = rs s l 64 from (show k = 64 by omega) ▸ hrs)
              obtain ⟨cs, r1, r2⟩ := h.res
              have hbel := Lib.hid h.below
              have a0 := h.st0
              have a1 := h.st1
              have a2 := h.st2
              have a3 := h.st3
              have a4 := h.st4
              have a5 := h.st5
              have a6 := h.st6
              have a7 := h.st7
              clear h hrs
              have hcl : ∀ j, j < 8 → ∃ u, wr.cell? ⟨w.heap.size + 1, j, none⟩ = some u := fun j hj => ⟨cs[j]'(by omega), by simp [World.cell?, r1, show j < cs.size by omega]⟩
              have hfl : ∀ j, j < 8 → wr.frozen? ⟨w.heap.size + 1, j, none⟩ = false := fun j hj => by simp [World.frozen?, r1]
              obtain ⟨p0, y0⟩ := hcl 0 (by omega)
              obtain ⟨p1, y1⟩ := hcl 1 (by omega)
              obtain ⟨p2, y2⟩ := hcl 2 (by omega)
              obtain ⟨p3, y3⟩ := hcl 3 (by omega)
              obtain ⟨p4, y4⟩ := hcl 4 (by omega)
              obtain ⟨p5, y5⟩ := hcl 5 (by omega)
              obtain ⟨p6, y6⟩ := hcl 6 (by omega)
              obtain ⟨p7, y7⟩ := hcl 7 (by omega)
              have z0 := hfl 0 (by omega)
              have z1 := hfl 1 (by omega)
              have z2 := hfl 2 (by omega)
              have z3 := hfl 3 (by omega)
              have z4 := hfl 4 (by omega)
              have z5 := hfl 5 (by omega)
              have z6 := hfl 6 (by omega)
              have z7 := hfl 7 (by omega)
              clear r1 hcl hfl
              go_wp2
              refine bodyPost_ret (v := .agg #[.int .u32 (nv (s.a + a)), .int .u32 (nv (s.b + b')), .int .u32 (nv (s.c + c')), .int .u32 (nv (s.d + d)), .int .u32 (nv (s.e + e)), .int .u32 (nv (s.f + f)), .int .u32 (nv (s.g + g)), .int .u32 (nv (s.h + h'))]) (by simp [results, Tryd.results74, go_sem, y0, y1, y2, y3, y4, y5, y6, y7]) rfl ⟨?_, ?_⟩
              · rw [rs_all, ← HF.out]; rfl
              · have g1 : w.heap.size ≤ w.heap.size + 1 := by omega
                exact ((((((((hbel.out.setCell g1 _).setCell g1 _).setCell g1 _).setCell g1 _).setCell g1 _).setCell g1 _).setCell g1 _).setCell g1 _)
end Go.Proofs.YtoiilhbjlfdfpaaDoor
