/- block, of the reference that sums. No statement of the seat is proved here. -/
import Derived.Test.YtoiilhbjlfdfpaaDoorShaRef2
import Derived.BigRegion
namespace Go.Proofs.YtoiilhbjlfdfpaaDoor
set_option linter.unusedVariables false
open Go.RowKit

theorem nv_compl2 (x : UInt32) : bits .xor .u32 4294967295 (nv x) = nv (~~~x) := nv_compl x
def RBlockPost (s : Sha.St) (l : List UInt8) (w : World) (e : Ending) (w' : World) : Prop :=
  ∃ A c, e = .returned (.slice A 8 c) ∧ Rd w' w'.heap.size A ((Sha.block s l).list.map uv) ∧ 8 ≤ c ∧ c ≤ maxLen ∧ Below w.heap.size w w'
theorem rblock_mk {w wr : World} {s t : Sha.St} {l : List UInt8} (cs : Array Value) (ty : TypeId) (h : Below w.heap.size w wr) (hc : cs = (t.list.map uv).toArray) (ht : Sha.block s l = t) :
    RBlockPost s l w (.returned (.slice (some ⟨wr.heap.size, 0, none⟩) 8 8)) (wr.alloc (.cells cs ty)) := by
  subst hc; subst ht
  exact ⟨_, _, rfl, (rd_new wr _ _ _).more (by unfold World.alloc; simp), by omega, by rw [maxLen_eq]; omega, h.alloc h.size _⟩
attribute [local go_sem] nv_xor nv_and nv_add nv_compl2

set_option maxRecDepth 100000 in
set_option maxHeartbeats 4000000 in
theorem rblock_any (s : Sha.St) (L : Option Addr) (cL : Nat) (A : Option Addr) (c : Nat) (l : List UInt8) (hl : l.length = 64) (w : World) (hL : Rd w w.heap.size L (s.list.map uv)) (hcL : 8 ≤ cL) (hr : Rd w w.heap.size A (l.map bv)) (hc : 64 ≤ c) (hm : c ≤ maxLen) :
    Calls Tryd.prog 63 #[.slice L 8 cL, .slice A 64 c] w (RBlockPost s l w) := by
  obtain ⟨b, off, rfl, hb, hcell⟩ := hL (by simp [Sha.St.list])
  have HR := Lib.hid hr
  have HC := Lib.hid (And.intro hb hcell)
  clear hr hcell hb hL
  go_enter Tryd.func63, Tryd.ntmps63
  go_wp2_with fail
  refine (schedule_any A c l hl w HR.out hc hm).mono ?_
  rintro e w1 ⟨S, cS, rfl, hrS, hb1⟩
  obtain ⟨g0, o0, rfl, hg0, hcS⟩ := hrS (fun h => by have h2 := congrArg List.length h; simp [swl] at h2)
  have HS := Lib.hid (And.intro hg0 (And.intro hcS hb1))
  clear hrS hg0 hcS hb1
  go_wp2_with fail
  refine (constants_any w1).mono ?_
  rintro e w2 ⟨G, oG, rfl, hG, hcG, hb2⟩
  have HG := Lib.hid (And.intro hG (And.intro hcG hb2))
  clear hG hcG hb2
  have HB2 := Lib.hid (HS.out.2.2.trans (HG.out.2.2.mono HS.out.2.2.size))
  have low : ∀ (j : Nat) (v : Value), (s.list.map uv)[j]? = some v → ∀ W, Below w2.heap.size w2 W → W.cell? ⟨b, off + j, none⟩ = some v := fun j v hv W hW =>
    (hW.cell (p := ⟨b, off + j, none⟩) (Nat.lt_of_lt_of_le HC.out.1 HB2.out.size)).trans ((HB2.out.cell (p := ⟨b, off + j, none⟩) HC.out.1).trans (HC.out.2 j v hv))
  have HLOW := Lib.hid low
  have a0 := low 0 _ rfl w2 (Below.refl _ _)
  have a1 := low 1 _ rfl w2 (Below.refl _ _)
  have a2 := low 2 _ rfl w2 (Below.refl _ _)
  have a3 := low 3 _ rfl w2 (Below.refl _ _)
  have a4 := low 4 _ rfl w2 (Below.refl _ _)
  have a5 := low 5 _ rfl w2 (Below.refl _ _)
  have a6 := low 6 _ rfl w2 (Below.refl _ _)
  have a7 := low 7 _ rfl w2 (Below.refl _ _)
  simp only [uv, Nat.add_zero] at a0 a1 a2 a3 a4 a5 a6 a7
  clear low
  go_wp2_with fail
  go_quiet (fail)
  go_wp2_with fail
  generalize hwd : World.drewN w2 _ = wd
  have HWD := Lib.hid (show Below w2.heap.size w2 wd from hwd ▸ grow_drewN ⟨_, rfl⟩)
  clear hwd a0 a1 a2 a3 a4 a5 a6 a7
  go_loopw [7, 8, 9, 10, 11, 12, 13, 14, 15] (fun v0 v1 v2 v3 v4 v5 v6 v7 i wr => ∃ (k : Nat) (r : Sha.St), k ≤ 64 ∧ i = .int .i64 k ∧ r = rs s l k ∧ v0 = .int .u32 (nv r.a) ∧ v1 = .int .u32 (nv r.b) ∧ v2 = .int .u32 (nv r.c) ∧ v3 = .int .u32 (nv r.d) ∧ v4 = .int .u32 (nv r.e) ∧ v5 = .int .u32 (nv r.f) ∧ v6 = .int .u32 (nv r.g) ∧ v7 = .int .u32 (nv r.h) ∧ Below w2.heap.size w2 wr) (fun _ _ _ _ _ _ _ _ i _ => 64 - (intOf i).toNat)
  case atStart => exact ⟨0, s, by omega, rfl, (rs_zero s l).symm, rfl, rfl, rfl, rfl, rfl, rfl, rfl, rfl, HWD.out⟩
  clear HWD
  case round =>
    obtain ⟨k, ⟨a, b', c', d, e, f, g, h'⟩, hk64, rfl, hrs, rfl, rfl, rfl, rfl, rfl, rfl, rfl, rfl, hbel⟩ := hrel
    have HB := Lib.hid hbel
    have HRS := Lib.hid hrs
    by_cases hk : k < 64
    · obtain ⟨x, ex⟩ : ∃ x, sw l k = x := ⟨_, rfl⟩
      obtain ⟨y, ey⟩ : ∃ y, cst k = y := ⟨_, rfl⟩
      have hqs : ∀ W, Below wr.heap.size wr W → W.cell? ⟨g0, o0 + k, none⟩ = some (.int .u32 (nv x)) := fun W hW =>
        (hW.cell (p := ⟨g0, o0 + k, none⟩) (Nat.lt_of_lt_of_le HS.out.1 (Nat.le_trans HG.out.2.2.size HB.out.size))).trans ((HB.out.cell (p := ⟨g0, o0 + k, none⟩) (Nat.lt_of_lt_of_le HS.out.1 HG.out.2.2.size)).trans ((HG.out.2.2.cell (p := ⟨g0, o0 + k, none⟩) HS.out.1).trans (by rw [← ex]; exact HS.out.2.1 k _ (swl_get l 64 k hk))))
      have hqk : ∀ W, Below wr.heap.size wr W → W.cell? ⟨G, oG + k, none⟩ = some (.int .u32 (nv y)) := fun W hW =>
        (hW.cell (p := ⟨G, oG + k, none⟩) (Nat.lt_of_lt_of_le HG.out.1 HB.out.size)).trans ((HB.out.cell (p := ⟨G, oG + k, none⟩) HG.out.1).trans (by rw [← ey]; exact HG.out.2.1 k hk))
      have HXY := Lib.hid (And.intro ex ey)
      clear ex ey hrs hbel
      go_wp2_with fail
      obtain ⟨ch, hch⟩ : ∃ y, (e &&& f) ^^^ (~~~e &&& g) = y := ⟨_, rfl⟩
      rw [hch]
      have HCH := Lib.hid hch
      clear hch
      refine Free.wp_free_l 23 (fun W => Below wr.heap.size wr W) [Free.kc (.int .u32 (nv (h'))), Free.kc (.int .u32 (nv (e))), Free.kc (.int .u32 (nv (Sha.rotr e 6))), Free.kc (.int .u32 (nv (e))), Free.kc (.int .u32 (nv (Sha.rotr e 11))), Free.kc (.int .u32 (nv (Sha.rotr e 6 ^^^ Sha.rotr e 11))), Free.kc (.int .u32 (nv (e))), Free.kc (.int .u32 (nv (Sha.rotr e 25))), Free.kc (.int .u32 (nv (Sha.rotr e 6 ^^^ Sha.rotr e 11 ^^^ Sha.rotr e 25))), Free.kc (.int .u32 (nv (h' + (Sha.rotr e 6 ^^^ Sha.rotr e 11 ^^^ Sha.rotr e 25)))), Free.kc (.int .u32 (nv (ch))), Free.kc (.int .u32 (nv (h' + (Sha.rotr e 6 ^^^ Sha.rotr e 11 ^^^ Sha.rotr e 25) + ch))), Free.kc (.slice (some ⟨G, oG, none⟩) 64 64), Free.kc (.int .i64 (k : Int)), Free.kc (.pointer (some ⟨G, oG + k, none⟩)), Free.kc (.int .u32 (nv (y))), Free.kc (.int .u32 (nv (h' + (Sha.rotr e 6 ^^^ Sha.rotr e 11 ^^^ Sha.rotr e 25) + ch + y))), Free.kc (.slice (some ⟨g0, o0, none⟩) 64 cS), Free.kc (.int .i64 (k : Int)), Free.kc (.pointer (some ⟨g0, o0 + k, none⟩)), Free.kc (.int .u32 (nv (x))), Free.kc (.int .u32 (nv (h' + (Sha.rotr e 6 ^^^ Sha.rotr e 11 ^^^ Sha.rotr e 25) + ch + y + x))), Free.kc (.int .u32 (nv (h' + (Sha.rotr e 6 ^^^ Sha.rotr e 11 ^^^ Sha.rotr e 25) + ch + y + x)))] (by kernel_rfl) (by kernel_rfl) (by decide) (Below.refl _ _).drew (fun w w' h g => bt h g) ?_ ?_
      · refine Free.forall_succ (Free.forall_succ (Free.forall_succ (Free.forall_succ (Free.forall_succ (Free.forall_succ (Free.forall_succ (Free.forall_succ (Free.forall_succ (Free.forall_succ (Free.forall_succ (Free.forall_succ (Free.forall_succ (Free.forall_succ (Free.forall_succ (Free.forall_succ (Free.forall_succ (Free.forall_succ (Free.forall_succ (Free.forall_succ (Free.forall_succ (Free.forall_succ (Free.forall_succ (Free.forall_zero) ?_) ?_) ?_) ?_) ?_) ?_) ?_) ?_) ?_) ?_) ?_) ?_) ?_) ?_) ?_) ?_) ?_) ?_) ?_) ?_) ?_) ?_) ?_
        · exact Free.ob_plain _ rfl rfl fun vals wq hC hd => (by exact Free.d_move rfl (by kernel_rfl) rfl)
        · exact Free.ob_plain _ rfl rfl fun vals wq hC hd => (by exact Free.d_move rfl (by kernel_rfl) rfl)
        · exact Free.ob_plain _ rfl rfl fun vals wq hC hd => (by exact Free.d_call Tryd.func73 (by kernel_rfl) (by kernel_rfl) rfl rfl (Free.arg2 (Eq.trans (b := vals 1) (by kernel_rfl) (hd 1 (by kernel_rfl))) (show _ = (.int .i64 6 : Value) from rfl)) ((right_6 e wq).mono fun e w2 h => ⟨_, h.1, rfl, grow_drewN h.2⟩))
        · exact Free.ob_plain _ rfl rfl fun vals wq hC hd => (by exact Free.d_move rfl (by kernel_rfl) rfl)
        · exact Free.ob_plain _ rfl rfl fun vals wq hC hd => (by exact Free.d_call Tryd.func73 (by kernel_rfl) (by kernel_rfl) rfl rfl (Free.arg2 (Eq.trans (b := vals 3) (by kernel_rfl) (hd 3 (by kernel_rfl))) (show _ = (.int .i64 11 : Value) from rfl)) ((right_11 e wq).mono fun e w2 h => ⟨_, h.1, rfl, grow_drewN h.2⟩))
        · exact Free.ob_plain _ rfl rfl fun vals wq hC hd => (by exact Free.d_bin rfl (Eq.trans (b := vals 2) (by kernel_rfl) (hd 2 (by kernel_rfl))) (Eq.trans (b := vals 4) (by kernel_rfl) (hd 4 (by kernel_rfl))) (by go_simp) (by first | (go_simp; done) | (go_simp; rw [IntWalk.u32_in _ (by omega)]) | (go_simp; rw [IntWalk.i64_in _ (by omega)]) | (go_simp; rw [IntWalk.u8_in _ (by omega)]) | (go_simp; rw [IntKind.wrap_u32]; exact nv_add _ _)) rfl)
        · exact Free.ob_plain _ rfl rfl fun vals wq hC hd => (by exact Free.d_move rfl (by kernel_rfl) rfl)
        · exact Free.ob_plain _ rfl rfl fun vals wq hC hd => (by exact Free.d_call Tryd.func73 (by kernel_rfl) (by kernel_rfl) rfl rfl (Free.arg2 (Eq.trans (b := vals 6) (by kernel_rfl) (hd 6 (by kernel_rfl))) (show _ = (.int .i64 25 : Value) from rfl)) ((right_25 e wq).mono fun e w2 h => ⟨_, h.1, rfl, grow_drewN h.2⟩))
        · exact Free.ob_plain _ rfl rfl fun vals wq hC hd => (by exact Free.d_bin rfl (Eq.trans (b := vals 5) (by kernel_rfl) (hd 5 (by kernel_rfl))) (Eq.trans (b := vals 7) (by kernel_rfl) (hd 7 (by kernel_rfl))) (by go_simp) (by first | (go_simp; done) | (go_simp; rw [IntWalk.u32_in _ (by omega)]) | (go_simp; rw [IntWalk.i64_in _ (by omega)]) | (go_simp; rw [IntWalk.u8_in _ (by omega)]) | (go_simp; rw [IntKind.wrap_u32]; exact nv_add _ _)) rfl)
        · exact Free.ob_plain _ rfl rfl fun vals wq hC hd => (by exact Free.d_bin rfl (Eq.trans (b := vals 0) (by kernel_rfl) (hd 0 (by kernel_rfl))) (Eq.trans (b := vals 8) (by kernel_rfl) (hd 8 (by kernel_rfl))) (by go_simp) (by first | (go_simp; done) | (go_simp; rw [IntWalk.u32_in _ (by omega)]) | (go_simp; rw [IntWalk.i64_in _ (by omega)]) | (go_simp; rw [IntWalk.u8_in _ (by omega)]) | (go_simp; rw [IntKind.wrap_u32]; exact nv_add _ _)) rfl)
        · exact Free.ob_plain _ rfl rfl fun vals wq hC hd => (by exact Free.d_move rfl (by kernel_rfl) rfl)
        · exact Free.ob_plain _ rfl rfl fun vals wq hC hd => (by exact Free.d_bin rfl (Eq.trans (b := vals 9) (by kernel_rfl) (hd 9 (by kernel_rfl))) (Eq.trans (b := vals 10) (by kernel_rfl) (hd 10 (by kernel_rfl))) (by go_simp) (by first | (go_simp; done) | (go_simp; rw [IntWalk.u32_in _ (by omega)]) | (go_simp; rw [IntWalk.i64_in _ (by omega)]) | (go_simp; rw [IntWalk.u8_in _ (by omega)]) | (go_simp; rw [IntKind.wrap_u32]; exact nv_add _ _)) rfl)
        · exact Free.ob_plain _ rfl rfl fun vals wq hC hd => (by exact Free.d_move rfl (by kernel_rfl) rfl)
        · exact Free.ob_plain _ rfl rfl fun vals wq hC hd => (by exact Free.d_move rfl (by kernel_rfl) rfl)
        · exact Free.ob_plain _ rfl rfl fun vals wq hC hd => (by exact Free.d_indexAddr rfl (Eq.trans (b := vals 12) (by kernel_rfl) (hd 12 (by kernel_rfl))) (Eq.trans (b := vals 13) (by kernel_rfl) (hd 13 (by kernel_rfl))) (run_idx 79 Tryd.underlying79 (by kernel_rfl) _ _ _ _ _ _ (by omega) (by omega)) rfl)
        · exact Free.ob_plain _ rfl rfl fun vals wq hC hd => (by exact Free.d_load rfl (Eq.trans (b := vals 14) (by kernel_rfl) (hd 14 (by kernel_rfl))) (by have hcc := hqk wq hC; go_simp) rfl)
        · exact Free.ob_plain _ rfl rfl fun vals wq hC hd => (by exact Free.d_bin rfl (Eq.trans (b := vals 11) (by kernel_rfl) (hd 11 (by kernel_rfl))) (Eq.trans (b := vals 15) (by kernel_rfl) (hd 15 (by kernel_rfl))) (by go_simp) (by first | (go_simp; done) | (go_simp; rw [IntWalk.u32_in _ (by omega)]) | (go_simp; rw [IntWalk.i64_in _ (by omega)]) | (go_simp; rw [IntWalk.u8_in _ (by omega)]) | (go_simp; rw [IntKind.wrap_u32]; exact nv_add _ _)) rfl)
        · exact Free.ob_plain _ rfl rfl fun vals wq hC hd => (by exact Free.d_move rfl (by kernel_rfl) rfl)
        · exact Free.ob_plain _ rfl rfl fun vals wq hC hd => (by exact Free.d_move rfl (by kernel_rfl) rfl)
        · exact Free.ob_plain _ rfl rfl fun vals wq hC hd => (by exact Free.d_indexAddr rfl (Eq.trans (b := vals 17) (by kernel_rfl) (hd 17 (by kernel_rfl))) (Eq.trans (b := vals 18) (by kernel_rfl) (hd 18 (by kernel_rfl))) (run_idx 79 Tryd.underlying79 (by kernel_rfl) _ _ _ _ _ _ (by omega) (by omega)) rfl)
        · exact Free.ob_plain _ rfl rfl fun vals wq hC hd => (by exact Free.d_load rfl (Eq.trans (b := vals 19) (by kernel_rfl) (hd 19 (by kernel_rfl))) (by have hcc := hqs wq hC; go_simp) rfl)
        · exact Free.ob_plain _ rfl rfl fun vals wq hC hd => (by exact Free.d_bin rfl (Eq.trans (b := vals 16) (by kernel_rfl) (hd 16 (by kernel_rfl))) (Eq.trans (b := vals 20) (by kernel_rfl) (hd 20 (by kernel_rfl))) (by go_simp) (by first | (go_simp; done) | (go_simp; rw [IntWalk.u32_in _ (by omega)]) | (go_simp; rw [IntWalk.i64_in _ (by omega)]) | (go_simp; rw [IntWalk.u8_in _ (by omega)]) | (go_simp; rw [IntKind.wrap_u32]; exact nv_add _ _)) rfl)
        · exact Free.ob_plain _ rfl rfl fun vals wq hC hd => (by exact Free.d_assign rfl (Eq.trans (b := vals 21) (by kernel_rfl) (hd 21 (by kernel_rfl))) rfl)
      · intro vals wq hC hd
        have e0 : vals 0 = (.int .u32 (nv (h'))) := hd 0 (by decide)
        have e1 : vals 1 = (.int .u32 (nv (e))) := hd 1 (by decide)
        have e2 : vals 2 = (.int .u32 (nv (Sha.rotr e 6))) := hd 2 (by decide)
        have e3 : vals 3 = (.int .u32 (nv (e))) := hd 3 (by decide)
        have e4 : vals 4 = (.int .u32 (nv (Sha.rotr e 11))) := hd 4 (by decide)
        have e5 : vals 5 = (.int .u32 (nv (Sha.rotr e 6 ^^^ Sha.rotr e 11))) := hd 5 (by decide)
        have e6 : vals 6 = (.int .u32 (nv (e))) := hd 6 (by decide)
        have e7 : vals 7 = (.int .u32 (nv (Sha.rotr e 25))) := hd 7 (by decide)
        have e8 : vals 8 = (.int .u32 (nv (Sha.rotr e 6 ^^^ Sha.rotr e 11 ^^^ Sha.rotr e 25))) := hd 8 (by decide)
        have e9 : vals 9 = (.int .u32 (nv (h' + (Sha.rotr e 6 ^^^ Sha.rotr e 11 ^^^ Sha.rotr e 25)))) := hd 9 (by decide)
        have e10 : vals 10 = (.int .u32 (nv (ch))) := hd 10 (by decide)
        have e11 : vals 11 = (.int .u32 (nv (h' + (Sha.rotr e 6 ^^^ Sha.rotr e 11 ^^^ Sha.rotr e 25) + ch))) := hd 11 (by decide)
        have e12 : vals 12 = (.slice (some ⟨G, oG, none⟩) 64 64) := hd 12 (by decide)
        have e13 : vals 13 = (.int .i64 (k : Int)) := hd 13 (by decide)
        have e14 : vals 14 = (.pointer (some ⟨G, oG + k, none⟩)) := hd 14 (by decide)
        have e15 : vals 15 = (.int .u32 (nv (y))) := hd 15 (by decide)
        have e16 : vals 16 = (.int .u32 (nv (h' + (Sha.rotr e 6 ^^^ Sha.rotr e 11 ^^^ Sha.rotr e 25) + ch + y))) := hd 16 (by decide)
        have e17 : vals 17 = (.slice (some ⟨g0, o0, none⟩) 64 cS) := hd 17 (by decide)
        have e18 : vals 18 = (.int .i64 (k : Int)) := hd 18 (by decide)
        have e19 : vals 19 = (.pointer (some ⟨g0, o0 + k, none⟩)) := hd 19 (by decide)
        have e20 : vals 20 = (.int .u32 (nv (x))) := hd 20 (by decide)
        have e21 : vals 21 = (.int .u32 (nv (h' + (Sha.rotr e 6 ^^^ Sha.rotr e 11 ^^^ Sha.rotr e 25) + ch + y + x))) := hd 21 (by decide)
        have e22 : vals 22 = (.int .u32 (nv (h' + (Sha.rotr e 6 ^^^ Sha.rotr e 11 ^^^ Sha.rotr e 25) + ch + y + x))) := hd 22 (by decide)
        simp only [Free.frameOf, List.range, List.range.loop, List.foldl, Free.dstOf, List.getElem?_toArray, List.getElem?_cons_zero, List.getElem?_cons_succ, Option.bind_some, Act.put, List.setIfInBounds_toArray, List.set_cons_zero, List.set_cons_succ, e0, e1, e2, e3, e4, e5, e6, e7, e8, e9, e10, e11, e12, e13, e14, e15, e16, e17, e18, e19, e20, e21, e22]
        refine wpList_nil ?_
        clear hd e0 e1 e2 e3 e4 e5 e6 e7 e8 e9 e10 e11 e12 e13 e14 e15 e16 e17 e18 e19 e20 e21 e22
        clear hqs hqk
        have HB3 := Lib.hid (HB.out.trans (hC.mono HB.out.size))
        clear hC
        go_wp2_with (first | (go_at_call 73; with_reducible refine (right_2 _ _).mono ?_; rintro e w' ⟨rfl, m, rfl⟩) | (go_at_call 73; with_reducible refine (right_13 _ _).mono ?_; rintro e w' ⟨rfl, m, rfl⟩) | (go_at_call 73; with_reducible refine (right_22 _ _).mono ?_; rintro e w' ⟨rfl, m, rfl⟩))
        go_roundw
        case rel => exact ⟨k + 1, Sha.round ⟨a, b', c', d, e, f, g, h'⟩ y x, by omega, by go_num, by rw [rs_succ, ← HRS.out, HXY.out.1, HXY.out.2], by rw [nv_add, ← HCH.out]; rfl, rfl, rfl, rfl, by rw [nv_add, ← HCH.out]; rfl, rfl, rfl, rfl, ⟨HB3.out.os, HB3.out.tape, HB3.out.output, HB3.out.size, HB3.out.block⟩⟩
        case measure => simp [intOf]; omega
    · have HF := Lib.hid (show Sha.St.mk a b' c' d e f g h' = rs s l 64 from (show k = 64 by omega) ▸ hrs)
      have h0 : ∀ W, Below wr.heap.size wr W → W.cell? ⟨b, off, none⟩ = some (.int .u32 (nv s.a)) := fun W hW => HLOW.out 0 _ rfl W (bt HB.out hW)
      have h1 : ∀ W, Below wr.heap.size wr W → W.cell? ⟨b, off + 1, none⟩ = some (.int .u32 (nv s.b)) := fun W hW => HLOW.out 1 _ rfl W (bt HB.out hW)
      have h2 : ∀ W, Below wr.heap.size wr W → W.cell? ⟨b, off + 2, none⟩ = some (.int .u32 (nv s.c)) := fun W hW => HLOW.out 2 _ rfl W (bt HB.out hW)
      have h3 : ∀ W, Below wr.heap.size wr W → W.cell? ⟨b, off + 3, none⟩ = some (.int .u32 (nv s.d)) := fun W hW => HLOW.out 3 _ rfl W (bt HB.out hW)
      have h4 : ∀ W, Below wr.heap.size wr W → W.cell? ⟨b, off + 4, none⟩ = some (.int .u32 (nv s.e)) := fun W hW => HLOW.out 4 _ rfl W (bt HB.out hW)
      have h5 : ∀ W, Below wr.heap.size wr W → W.cell? ⟨b, off + 5, none⟩ = some (.int .u32 (nv s.f)) := fun W hW => HLOW.out 5 _ rfl W (bt HB.out hW)
      have h6 : ∀ W, Below wr.heap.size wr W → W.cell? ⟨b, off + 6, none⟩ = some (.int .u32 (nv s.g)) := fun W hW => HLOW.out 6 _ rfl W (bt HB.out hW)
      have h7 : ∀ W, Below wr.heap.size wr W → W.cell? ⟨b, off + 7, none⟩ = some (.int .u32 (nv s.h)) := fun W hW => HLOW.out 7 _ rfl W (bt HB.out hW)
      have HBW := Lib.hid (HB2.out.trans (HB.out.mono HB2.out.size))
      clear hrs hbel
      go_wp2_with fail
      refine Free.wp_free_l 40 (fun W => Below wr.heap.size wr W) [Free.kc (.slice (some ⟨b, off, none⟩) 8 cL), Free.kc (.pointer (some ⟨b, off, none⟩)), Free.kc (.int .u32 (nv s.a)), Free.kc (.int .u32 (nv a)), Free.kc (.int .u32 (nv (s.a + a))), Free.kc (.slice (some ⟨b, off, none⟩) 8 cL), Free.kc (.pointer (some ⟨b, off + 1, none⟩)), Free.kc (.int .u32 (nv s.b)), Free.kc (.int .u32 (nv b')), Free.kc (.int .u32 (nv (s.b + b'))), Free.kc (.slice (some ⟨b, off, none⟩) 8 cL), Free.kc (.pointer (some ⟨b, off + 2, none⟩)), Free.kc (.int .u32 (nv s.c)), Free.kc (.int .u32 (nv c')), Free.kc (.int .u32 (nv (s.c + c'))), Free.kc (.slice (some ⟨b, off, none⟩) 8 cL), Free.kc (.pointer (some ⟨b, off + 3, none⟩)), Free.kc (.int .u32 (nv s.d)), Free.kc (.int .u32 (nv d)), Free.kc (.int .u32 (nv (s.d + d))), Free.kc (.slice (some ⟨b, off, none⟩) 8 cL), Free.kc (.pointer (some ⟨b, off + 4, none⟩)), Free.kc (.int .u32 (nv s.e)), Free.kc (.int .u32 (nv e)), Free.kc (.int .u32 (nv (s.e + e))), Free.kc (.slice (some ⟨b, off, none⟩) 8 cL), Free.kc (.pointer (some ⟨b, off + 5, none⟩)), Free.kc (.int .u32 (nv s.f)), Free.kc (.int .u32 (nv f)), Free.kc (.int .u32 (nv (s.f + f))), Free.kc (.slice (some ⟨b, off, none⟩) 8 cL), Free.kc (.pointer (some ⟨b, off + 6, none⟩)), Free.kc (.int .u32 (nv s.g)), Free.kc (.int .u32 (nv g)), Free.kc (.int .u32 (nv (s.g + g))), Free.kc (.slice (some ⟨b, off, none⟩) 8 cL), Free.kc (.pointer (some ⟨b, off + 7, none⟩)), Free.kc (.int .u32 (nv s.h)), Free.kc (.int .u32 (nv h')), Free.kc (.int .u32 (nv (s.h + h')))] (by kernel_rfl) (by kernel_rfl) (by decide) (Below.refl _ _).drew (fun w w' h g => bt h g) ?_ ?_
      · refine Free.forall_succ (Free.forall_succ (Free.forall_succ (Free.forall_succ (Free.forall_succ (Free.forall_succ (Free.forall_succ (Free.forall_succ (Free.forall_succ (Free.forall_succ (Free.forall_succ (Free.forall_succ (Free.forall_succ (Free.forall_succ (Free.forall_succ (Free.forall_succ (Free.forall_succ (Free.forall_succ (Free.forall_succ (Free.forall_succ (Free.forall_succ (Free.forall_succ (Free.forall_succ (Free.forall_succ (Free.forall_succ (Free.forall_succ (Free.forall_succ (Free.forall_succ (Free.forall_succ (Free.forall_succ (Free.forall_succ (Free.forall_succ (Free.forall_succ (Free.forall_succ (Free.forall_succ (Free.forall_succ (Free.forall_succ (Free.forall_succ (Free.forall_succ (Free.forall_succ (Free.forall_zero) ?_) ?_) ?_) ?_) ?_) ?_) ?_) ?_) ?_) ?_) ?_) ?_) ?_) ?_) ?_) ?_) ?_) ?_) ?_) ?_) ?_) ?_) ?_) ?_) ?_) ?_) ?_) ?_) ?_) ?_) ?_) ?_) ?_) ?_) ?_) ?_) ?_) ?_) ?_) ?_
        · exact Free.ob_plain _ rfl rfl fun vals wq hC hd => (by exact Free.d_move rfl (by kernel_rfl) rfl)
        · exact Free.ob_plain _ rfl rfl fun vals wq hC hd => (by exact Free.d_indexAddr rfl (Eq.trans (b := vals 0) (by kernel_rfl) (hd 0 (by kernel_rfl))) (show _ = (.int .i64 0 : Value) from rfl) (run_idx (i := 0) 79 Tryd.underlying79 (by kernel_rfl) b off 8 cL 0 rfl (by omega)) rfl)
        · exact Free.ob_plain _ rfl rfl fun vals wq hC hd => (by exact Free.d_load rfl (Eq.trans (b := vals 1) (by kernel_rfl) (hd 1 (by kernel_rfl))) (by have hcc := h0 wq hC; go_simp) rfl)
        · exact Free.ob_plain _ rfl rfl fun vals wq hC hd => (by exact Free.d_move rfl (by kernel_rfl) rfl)
        · exact Free.ob_plain _ rfl rfl fun vals wq hC hd => (by exact Free.d_bin rfl (Eq.trans (b := vals 2) (by kernel_rfl) (hd 2 (by kernel_rfl))) (Eq.trans (b := vals 3) (by kernel_rfl) (hd 3 (by kernel_rfl))) (by go_simp) (by first | (go_simp; done) | (go_simp; rw [IntWalk.u32_in _ (by omega)]) | (go_simp; rw [IntWalk.i64_in _ (by omega)]) | (go_simp; rw [IntWalk.u8_in _ (by omega)]) | (go_simp; rw [IntKind.wrap_u32]; exact nv_add _ _)) rfl)
        · exact Free.ob_plain _ rfl rfl fun vals wq hC hd => (by exact Free.d_move rfl (by kernel_rfl) rfl)
        · exact Free.ob_plain _ rfl rfl fun vals wq hC hd => (by exact Free.d_indexAddr rfl (Eq.trans (b := vals 5) (by kernel_rfl) (hd 5 (by kernel_rfl))) (show _ = (.int .i64 1 : Value) from rfl) (run_idx 79 Tryd.underlying79 (by kernel_rfl) _ _ _ _ _ _ (by omega) (by omega)) rfl)
        · exact Free.ob_plain _ rfl rfl fun vals wq hC hd => (by exact Free.d_load rfl (Eq.trans (b := vals 6) (by kernel_rfl) (hd 6 (by kernel_rfl))) (by have hcc := h1 wq hC; go_simp) rfl)
        · exact Free.ob_plain _ rfl rfl fun vals wq hC hd => (by exact Free.d_move rfl (by kernel_rfl) rfl)
        · exact Free.ob_plain _ rfl rfl fun vals wq hC hd => (by exact Free.d_bin rfl (Eq.trans (b := vals 7) (by kernel_rfl) (hd 7 (by kernel_rfl))) (Eq.trans (b := vals 8) (by kernel_rfl) (hd 8 (by kernel_rfl))) (by go_simp) (by first | (go_simp; done) | (go_simp; rw [IntWalk.u32_in _ (by omega)]) | (go_simp; rw [IntWalk.i64_in _ (by omega)]) | (go_simp; rw [IntWalk.u8_in _ (by omega)]) | (go_simp; rw [IntKind.wrap_u32]; exact nv_add _ _)) rfl)
        · exact Free.ob_plain _ rfl rfl fun vals wq hC hd => (by exact Free.d_move rfl (by kernel_rfl) rfl)
        · exact Free.ob_plain _ rfl rfl fun vals wq hC hd => (by exact Free.d_indexAddr rfl (Eq.trans (b := vals 10) (by kernel_rfl) (hd 10 (by kernel_rfl))) (show _ = (.int .i64 2 : Value) from rfl) (run_idx 79 Tryd.underlying79 (by kernel_rfl) _ _ _ _ _ _ (by omega) (by omega)) rfl)
        · exact Free.ob_plain _ rfl rfl fun vals wq hC hd => (by exact Free.d_load rfl (Eq.trans (b := vals 11) (by kernel_rfl) (hd 11 (by kernel_rfl))) (by have hcc := h2 wq hC; go_simp) rfl)
        · exact Free.ob_plain _ rfl rfl fun vals wq hC hd => (by exact Free.d_move rfl (by kernel_rfl) rfl)
        · exact Free.ob_plain _ rfl rfl fun vals wq hC hd => (by exact Free.d_bin rfl (Eq.trans (b := vals 12) (by kernel_rfl) (hd 12 (by kernel_rfl))) (Eq.trans (b := vals 13) (by kernel_rfl) (hd 13 (by kernel_rfl))) (by go_simp) (by first | (go_simp; done) | (go_simp; rw [IntWalk.u32_in _ (by omega)]) | (go_simp; rw [IntWalk.i64_in _ (by omega)]) | (go_simp; rw [IntWalk.u8_in _ (by omega)]) | (go_simp; rw [IntKind.wrap_u32]; exact nv_add _ _)) rfl)
        · exact Free.ob_plain _ rfl rfl fun vals wq hC hd => (by exact Free.d_move rfl (by kernel_rfl) rfl)
        · exact Free.ob_plain _ rfl rfl fun vals wq hC hd => (by exact Free.d_indexAddr rfl (Eq.trans (b := vals 15) (by kernel_rfl) (hd 15 (by kernel_rfl))) (show _ = (.int .i64 3 : Value) from rfl) (run_idx 79 Tryd.underlying79 (by kernel_rfl) _ _ _ _ _ _ (by omega) (by omega)) rfl)
        · exact Free.ob_plain _ rfl rfl fun vals wq hC hd => (by exact Free.d_load rfl (Eq.trans (b := vals 16) (by kernel_rfl) (hd 16 (by kernel_rfl))) (by have hcc := h3 wq hC; go_simp) rfl)
        · exact Free.ob_plain _ rfl rfl fun vals wq hC hd => (by exact Free.d_move rfl (by kernel_rfl) rfl)
        · exact Free.ob_plain _ rfl rfl fun vals wq hC hd => (by exact Free.d_bin rfl (Eq.trans (b := vals 17) (by kernel_rfl) (hd 17 (by kernel_rfl))) (Eq.trans (b := vals 18) (by kernel_rfl) (hd 18 (by kernel_rfl))) (by go_simp) (by first | (go_simp; done) | (go_simp; rw [IntWalk.u32_in _ (by omega)]) | (go_simp; rw [IntWalk.i64_in _ (by omega)]) | (go_simp; rw [IntWalk.u8_in _ (by omega)]) | (go_simp; rw [IntKind.wrap_u32]; exact nv_add _ _)) rfl)
        · exact Free.ob_plain _ rfl rfl fun vals wq hC hd => (by exact Free.d_move rfl (by kernel_rfl) rfl)
        · exact Free.ob_plain _ rfl rfl fun vals wq hC hd => (by exact Free.d_indexAddr rfl (Eq.trans (b := vals 20) (by kernel_rfl) (hd 20 (by kernel_rfl))) (show _ = (.int .i64 4 : Value) from rfl) (run_idx 79 Tryd.underlying79 (by kernel_rfl) _ _ _ _ _ _ (by omega) (by omega)) rfl)
        · exact Free.ob_plain _ rfl rfl fun vals wq hC hd => (by exact Free.d_load rfl (Eq.trans (b := vals 21) (by kernel_rfl) (hd 21 (by kernel_rfl))) (by have hcc := h4 wq hC; go_simp) rfl)
        · exact Free.ob_plain _ rfl rfl fun vals wq hC hd => (by exact Free.d_move rfl (by kernel_rfl) rfl)
        · exact Free.ob_plain _ rfl rfl fun vals wq hC hd => (by exact Free.d_bin rfl (Eq.trans (b := vals 22) (by kernel_rfl) (hd 22 (by kernel_rfl))) (Eq.trans (b := vals 23) (by kernel_rfl) (hd 23 (by kernel_rfl))) (by go_simp) (by first | (go_simp; done) | (go_simp; rw [IntWalk.u32_in _ (by omega)]) | (go_simp; rw [IntWalk.i64_in _ (by omega)]) | (go_simp; rw [IntWalk.u8_in _ (by omega)]) | (go_simp; rw [IntKind.wrap_u32]; exact nv_add _ _)) rfl)
        · exact Free.ob_plain _ rfl rfl fun vals wq hC hd => (by exact Free.d_move rfl (by kernel_rfl) rfl)
        · exact Free.ob_plain _ rfl rfl fun vals wq hC hd => (by exact Free.d_indexAddr rfl (Eq.trans (b := vals 25) (by kernel_rfl) (hd 25 (by kernel_rfl))) (show _ = (.int .i64 5 : Value) from rfl) (run_idx 79 Tryd.underlying79 (by kernel_rfl) _ _ _ _ _ _ (by omega) (by omega)) rfl)
        · exact Free.ob_plain _ rfl rfl fun vals wq hC hd => (by exact Free.d_load rfl (Eq.trans (b := vals 26) (by kernel_rfl) (hd 26 (by kernel_rfl))) (by have hcc := h5 wq hC; go_simp) rfl)
        · exact Free.ob_plain _ rfl rfl fun vals wq hC hd => (by exact Free.d_move rfl (by kernel_rfl) rfl)
        · exact Free.ob_plain _ rfl rfl fun vals wq hC hd => (by exact Free.d_bin rfl (Eq.trans (b := vals 27) (by kernel_rfl) (hd 27 (by kernel_rfl))) (Eq.trans (b := vals 28) (by kernel_rfl) (hd 28 (by kernel_rfl))) (by go_simp) (by first | (go_simp; done) | (go_simp; rw [IntWalk.u32_in _ (by omega)]) | (go_simp; rw [IntWalk.i64_in _ (by omega)]) | (go_simp; rw [IntWalk.u8_in _ (by omega)]) | (go_simp; rw [IntKind.wrap_u32]; exact nv_add _ _)) rfl)
        · exact Free.ob_plain _ rfl rfl fun vals wq hC hd => (by exact Free.d_move rfl (by kernel_rfl) rfl)
        · exact Free.ob_plain _ rfl rfl fun vals wq hC hd => (by exact Free.d_indexAddr rfl (Eq.trans (b := vals 30) (by kernel_rfl) (hd 30 (by kernel_rfl))) (show _ = (.int .i64 6 : Value) from rfl) (run_idx 79 Tryd.underlying79 (by kernel_rfl) _ _ _ _ _ _ (by omega) (by omega)) rfl)
        · exact Free.ob_plain _ rfl rfl fun vals wq hC hd => (by exact Free.d_load rfl (Eq.trans (b := vals 31) (by kernel_rfl) (hd 31 (by kernel_rfl))) (by have hcc := h6 wq hC; go_simp) rfl)
        · exact Free.ob_plain _ rfl rfl fun vals wq hC hd => (by exact Free.d_move rfl (by kernel_rfl) rfl)
        · exact Free.ob_plain _ rfl rfl fun vals wq hC hd => (by exact Free.d_bin rfl (Eq.trans (b := vals 32) (by kernel_rfl) (hd 32 (by kernel_rfl))) (Eq.trans (b := vals 33) (by kernel_rfl) (hd 33 (by kernel_rfl))) (by go_simp) (by first | (go_simp; done) | (go_simp; rw [IntWalk.u32_in _ (by omega)]) | (go_simp; rw [IntWalk.i64_in _ (by omega)]) | (go_simp; rw [IntWalk.u8_in _ (by omega)]) | (go_simp; rw [IntKind.wrap_u32]; exact nv_add _ _)) rfl)
        · exact Free.ob_plain _ rfl rfl fun vals wq hC hd => (by exact Free.d_move rfl (by kernel_rfl) rfl)
        · exact Free.ob_plain _ rfl rfl fun vals wq hC hd => (by exact Free.d_indexAddr rfl (Eq.trans (b := vals 35) (by kernel_rfl) (hd 35 (by kernel_rfl))) (show _ = (.int .i64 7 : Value) from rfl) (run_idx 79 Tryd.underlying79 (by kernel_rfl) _ _ _ _ _ _ (by omega) (by omega)) rfl)
        · exact Free.ob_plain _ rfl rfl fun vals wq hC hd => (by exact Free.d_load rfl (Eq.trans (b := vals 36) (by kernel_rfl) (hd 36 (by kernel_rfl))) (by have hcc := h7 wq hC; go_simp) rfl)
        · exact Free.ob_plain _ rfl rfl fun vals wq hC hd => (by exact Free.d_move rfl (by kernel_rfl) rfl)
        · exact Free.ob_plain _ rfl rfl fun vals wq hC hd => (by exact Free.d_bin rfl (Eq.trans (b := vals 37) (by kernel_rfl) (hd 37 (by kernel_rfl))) (Eq.trans (b := vals 38) (by kernel_rfl) (hd 38 (by kernel_rfl))) (by go_simp) (by first | (go_simp; done) | (go_simp; rw [IntWalk.u32_in _ (by omega)]) | (go_simp; rw [IntWalk.i64_in _ (by omega)]) | (go_simp; rw [IntWalk.u8_in _ (by omega)]) | (go_simp; rw [IntKind.wrap_u32]; exact nv_add _ _)) rfl)
      · intro vals wq hC hd
        have e0 : vals 0 = (.slice (some ⟨b, off, none⟩) 8 cL) := hd 0 (by decide)
        have e1 : vals 1 = (.pointer (some ⟨b, off, none⟩)) := hd 1 (by decide)
        have e2 : vals 2 = (.int .u32 (nv s.a)) := hd 2 (by decide)
        have e3 : vals 3 = (.int .u32 (nv a)) := hd 3 (by decide)
        have e4 : vals 4 = (.int .u32 (nv (s.a + a))) := hd 4 (by decide)
        have e5 : vals 5 = (.slice (some ⟨b, off, none⟩) 8 cL) := hd 5 (by decide)
        have e6 : vals 6 = (.pointer (some ⟨b, off + 1, none⟩)) := hd 6 (by decide)
        have e7 : vals 7 = (.int .u32 (nv s.b)) := hd 7 (by decide)
        have e8 : vals 8 = (.int .u32 (nv b')) := hd 8 (by decide)
        have e9 : vals 9 = (.int .u32 (nv (s.b + b'))) := hd 9 (by decide)
        have e10 : vals 10 = (.slice (some ⟨b, off, none⟩) 8 cL) := hd 10 (by decide)
        have e11 : vals 11 = (.pointer (some ⟨b, off + 2, none⟩)) := hd 11 (by decide)
        have e12 : vals 12 = (.int .u32 (nv s.c)) := hd 12 (by decide)
        have e13 : vals 13 = (.int .u32 (nv c')) := hd 13 (by decide)
        have e14 : vals 14 = (.int .u32 (nv (s.c + c'))) := hd 14 (by decide)
        have e15 : vals 15 = (.slice (some ⟨b, off, none⟩) 8 cL) := hd 15 (by decide)
        have e16 : vals 16 = (.pointer (some ⟨b, off + 3, none⟩)) := hd 16 (by decide)
        have e17 : vals 17 = (.int .u32 (nv s.d)) := hd 17 (by decide)
        have e18 : vals 18 = (.int .u32 (nv d)) := hd 18 (by decide)
        have e19 : vals 19 = (.int .u32 (nv (s.d + d))) := hd 19 (by decide)
        have e20 : vals 20 = (.slice (some ⟨b, off, none⟩) 8 cL) := hd 20 (by decide)
        have e21 : vals 21 = (.pointer (some ⟨b, off + 4, none⟩)) := hd 21 (by decide)
        have e22 : vals 22 = (.int .u32 (nv s.e)) := hd 22 (by decide)
        have e23 : vals 23 = (.int .u32 (nv e)) := hd 23 (by decide)
        have e24 : vals 24 = (.int .u32 (nv (s.e + e))) := hd 24 (by decide)
        have e25 : vals 25 = (.slice (some ⟨b, off, none⟩) 8 cL) := hd 25 (by decide)
        have e26 : vals 26 = (.pointer (some ⟨b, off + 5, none⟩)) := hd 26 (by decide)
        have e27 : vals 27 = (.int .u32 (nv s.f)) := hd 27 (by decide)
        have e28 : vals 28 = (.int .u32 (nv f)) := hd 28 (by decide)
        have e29 : vals 29 = (.int .u32 (nv (s.f + f))) := hd 29 (by decide)
        have e30 : vals 30 = (.slice (some ⟨b, off, none⟩) 8 cL) := hd 30 (by decide)
        have e31 : vals 31 = (.pointer (some ⟨b, off + 6, none⟩)) := hd 31 (by decide)
        have e32 : vals 32 = (.int .u32 (nv s.g)) := hd 32 (by decide)
        have e33 : vals 33 = (.int .u32 (nv g)) := hd 33 (by decide)
        have e34 : vals 34 = (.int .u32 (nv (s.g + g))) := hd 34 (by decide)
        have e35 : vals 35 = (.slice (some ⟨b, off, none⟩) 8 cL) := hd 35 (by decide)
        have e36 : vals 36 = (.pointer (some ⟨b, off + 7, none⟩)) := hd 36 (by decide)
        have e37 : vals 37 = (.int .u32 (nv s.h)) := hd 37 (by decide)
        have e38 : vals 38 = (.int .u32 (nv h')) := hd 38 (by decide)
        have e39 : vals 39 = (.int .u32 (nv (s.h + h'))) := hd 39 (by decide)
        simp only [Free.frameOf, List.range, List.range.loop, List.foldl, Free.dstOf, List.getElem?_toArray, List.getElem?_cons_zero, List.getElem?_cons_succ, Option.bind_some, Act.put, List.setIfInBounds_toArray, List.set_cons_zero, List.set_cons_succ, e0, e1, e2, e3, e4, e5, e6, e7, e8, e9, e10, e11, e12, e13, e14, e15, e16, e17, e18, e19, e20, e21, e22, e23, e24, e25, e26, e27, e28, e29, e30, e31, e32, e33, e34, e35, e36, e37, e38, e39]
        clear hd e0 e1 e2 e3 e4 e5 e6 e7 e8 e9 e10 e11 e12 e13 e14 e15 e16 e17 e18 e19 e20 e21 e22 e23 e24 e25 e26 e27 e28 e29 e30 e31 e32 e33 e34 e35 e36 e37 e38 e39
        clear h0 h1 h2 h3 h4 h5 h6 h7
        have HBQ := Lib.hid (HBW.out.trans (hC.mono HBW.out.size))
        go_wp2
        go_ret
        exact rblock_mk (t := s.add ⟨a, b', c', d, e, f, g, h'⟩) _ _ HBQ.out rfl (by rw [rs_all, ← HF.out])
end Go.Proofs.YtoiilhbjlfdfpaaDoor
