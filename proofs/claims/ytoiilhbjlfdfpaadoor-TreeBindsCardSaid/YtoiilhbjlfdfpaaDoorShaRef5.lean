/- Sum, of the reference. No statement of the seat is proved here. -/
import Derived.Test.YtoiilhbjlfdfpaaDoorShaRef3
import Derived.Test.YtoiilhbjlfdfpaaDoorShaRef4
namespace Go.Proofs.YtoiilhbjlfdfpaaDoor
set_option linter.unusedVariables false
open Go.RowKit

theorem tail_len (l : List UInt8) (n : Nat) : (Sha.tail l n).length % 64 = 0 := by
  have h : (Sha.lenBytes n).length = 8 := rfl
  unfold Sha.tail
  simp only [List.length_append, List.length_cons, List.length_nil, List.length_replicate, h]
  unfold Sha.zeros
  omega
theorem tail_le (l : List UInt8) (n : Nat) : (Sha.tail l n).length ≤ l.length + 128 := by
  have h : (Sha.lenBytes n).length = 8 := rfl
  unfold Sha.tail
  simp only [List.length_append, List.length_cons, List.length_nil, List.length_replicate, h]
  unfold Sha.zeros
  omega
theorem sum_pad (l : List UInt8) : Sha.sum l = (Sha.proc Sha.begin_ (Sha.tail l l.length)).1.bytes := by
  have h : Sha.zeros (Sha.proc Sha.begin_ l).2.length = Sha.zeros l.length := by
    rw [Sha.proc_rest]; unfold Sha.zeros; rw [Nat.mod_mod]
  have key : ∀ (r : List UInt8) (n : Nat), Sha.tail r n = r ++ ([0x80] ++ List.replicate (Sha.zeros r.length) 0 ++ Sha.lenBytes n) := fun r n => by
    unfold Sha.tail; simp only [List.append_assoc]
  rw [Sha.sum, Sha.end_, key, h, key l, Sha.proc_append _ l Sha.begin_]
def RSumPost (l : List UInt8) (w : World) (e : Ending) (w' : World) : Prop := e = .returned (sv (Sha.sum l)) ∧ Below w.heap.size w w'
structure SRel (P : List UInt8) (s : Sha.St) (A : Option Addr) (w wr : World) : Prop where
  below : Below w.heap.size w wr
  rd : Rd wr wr.heap.size A (s.list.map uv)
theorem srel_start (w : World) (P : List UInt8) (cs : Array Value) (t : TypeId) (h : cs = (Sha.begin_.list.map uv).toArray) : SRel P Sha.begin_ (some ⟨w.heap.size, 0, none⟩) w (w.alloc (.cells cs t)) := by
  subst h
  exact ⟨(Below.refl _ w).alloc (Nat.le_refl _) _, (rd_new w _ _ _).more (by unfold World.alloc; simp)⟩

set_option maxRecDepth 100000 in
set_option maxHeartbeats 4000000 in
theorem rsum_any (A : Option Addr) (n c : Nat) (l : List UInt8) (w : World) (hA : Rd w w.heap.size A (l.map bv)) (hn : l.length = n) (hc : n ≤ c) (hm : c ≤ maxLen) (hb : n ≤ 1099511627776) :
    Calls Tryd.prog 49 #[.slice A n c] w (RSumPost l w) := by
  have HA := Lib.hid (And.intro hA hn)
  clear hA hn
  go_enter Tryd.func49, Tryd.ntmps49
  go_wp2_with fail
  generalize hw1 : World.alloc w _ = w1
  have hs1 : SRel (Sha.tail l l.length) Sha.begin_ (some ⟨w.heap.size, 0, none⟩) w w1 := by
    rw [← hw1]
    exact srel_start w _ _ _ rfl
  have HS1 := Lib.hid hs1
  clear hw1 hs1
  refine (padded_any A n c l w1 (HA.out.1.below' HS1.out.below (Nat.le_refl _) |>.more HS1.out.below.size) HA.out.2 hc hm hb).mono ?_
  rintro e w2 ⟨AP, cP, rfl, hrP, hcP, hcP', hb2⟩
  obtain ⟨P, hP⟩ : ∃ P, Sha.tail l l.length = P := ⟨_, rfl⟩
  have hP64 : P.length % 64 = 0 := by rw [← hP]; exact tail_len _ _
  have hPle : P.length ≤ n + 128 := by rw [← hP, ← HA.out.2]; exact tail_le _ _
  have hsum : Sha.sum l = (Sha.proc Sha.begin_ P).1.bytes := by rw [← hP]; exact sum_pad l
  rw [hP] at hrP hcP ⊢
  obtain ⟨pn, hpn⟩ : ∃ q, P.length = q := ⟨_, rfl⟩
  rw [hpn] at hP64 hPle hcP ⊢
  have HPL := Lib.hid hpn
  have HP := Lib.hid hrP
  have HSUM := Lib.hid hsum
  have HB2 := Lib.hid (HS1.out.below.trans (hb2.mono HS1.out.below.size))
  have HW0 := Lib.hid (HS1.out.rd.below' hb2 (Nat.le_refl _) |>.more hb2.size)
  rw [maxLen_eq] at hcP' hm
  clear hP hsum hrP hb2 hpn
  go_wp2_with fail
  go_loopw [3, 5] (fun v i wr => ∃ (k : Nat) (s : Sha.St) (A' : Option Addr) (c' : Nat), 64 * k ≤ pn ∧ i = .int .i64 (64 * k : Nat) ∧ v = .slice A' 8 c' ∧ 8 ≤ c' ∧ c' ≤ 9223372036854775807 ∧ Sha.proc Sha.begin_ P = Sha.proc s (P.drop (64 * k)) ∧ Rd wr wr.heap.size A' (s.list.map uv) ∧ Below w2.heap.size w2 wr) (fun _ i _ => pn - (intOf i).toNat)
  case atStart => exact ⟨0, Sha.begin_, _, 8, by omega, rfl, rfl, by omega, by omega, rfl, HW0.out, Below.refl _ _⟩
  clear HW0
  case round =>
    obtain ⟨k, s, A', c', hk, rfl, rfl, hc1, hc2, hpr, hrd, hbel⟩ := hrel
    have HPR := Lib.hid hpr
    have HRD := Lib.hid hrd
    have HB := Lib.hid hbel
    clear hpr hrd hbel
    obtain ⟨ix, hix⟩ : ∃ x, 64 * k = x := ⟨_, rfl⟩
    rw [hix] at hk ⊢
    by_cases hlt : ix < pn
    · have hle : ix + 64 ≤ pn := by omega
      have HIX := Lib.hid hix
      have hblk : ((P.take (ix + 64)).drop ix).length = 64 := by
        rw [List.length_drop, List.length_take, HPL.out]; omega
      have HBL := Lib.hid hblk
      clear hblk hix
      go_wp2_with (first
        | (refine wl_cut_lh rfl 50 (.tmp 18) (.tmp 19) (.tmp 21) rfl 5 Tryd.underlying50 size_u8 AP pn cP rfl .i64 .i64 (ix : Int) ((ix : Int) + 64) rfl rfl (by omega) (by omega) (by omega) hcP w2.heap.size _ (HP.out.below HB.out) (by simpa using HPL.out) ?_; intro A2 hr2; have hr3 : Rd wr w2.heap.size A2 (((P.take (ix + 64)).drop ix).map bv) := (by have h := hr2; rw [Int.toNat_natCast, show ((ix : Int) + 64).toNat = ix + 64 by omega, ← List.map_take, ← List.map_drop] at h; exact h); have HR3 := Lib.hid (hr3.more HB.out.size); rw [show ((ix : Int) + 64).toNat - (ix : Int).toNat = 64 by omega]; clear hr2 hr3)
        | (go_at_call 63; refine (rblock_any s A' c' A2 (cP - ix) ((P.take (ix + 64)).drop ix) HBL.out wr HRD.out hc1 HR3.out (by omega) (by rw [maxLen_eq]; omega)).mono ?_; rintro e w4 ⟨A4, c4, rfl, hr4, hc4, hc4', hb4⟩; have HR4 := Lib.hid (And.intro hr4 (And.intro hc4 hc4')); have HB4 := Lib.hid (HB.out.trans (hb4.mono HB.out.size)); clear hr4 hc4 hc4' hb4))
      go_roundw
      case rel =>
        refine ⟨k + 1, Sha.block s ((P.take (ix + 64)).drop ix), A4, c4, by have := HIX.out; omega, by have := HIX.out; go_num, rfl, HR4.out.2.1, by have := HR4.out.2.2; rw [maxLen_eq] at this; exact this, ?_, HR4.out.1, HB4.out⟩
        rw [HPR.out, HIX.out, Sha.proc_step s (P.drop ix) (by rw [List.length_drop, HPL.out]; omega), List.drop_drop, List.drop_take, show ix + 64 - ix = 64 by omega, show 64 * (k + 1) = ix + 64 by have := HIX.out; omega]
      case measure => simp [intOf]; omega
    · have hkn : ix = pn := by omega
      have hfin : Sha.proc Sha.begin_ P = (s, []) := by
        rw [HPR.out, hix, hkn, List.drop_of_length_le (by rw [HPL.out]; exact Nat.le_refl _), Sha.proc_short _ _ (by simp)]
      have HF := Lib.hid hfin
      obtain ⟨g, o, rfl, hg, hcl⟩ := HRD.out (by simp [Sha.St.list])
      have HCL := Lib.hid (And.intro hg hcl)
      clear hfin hkn hix hg hcl hP64
      go_wp2
      go_loopw [6, 7] (fun v i wz => ∃ (k u : Nat) (A6 : Option Addr) (c6 : Nat), k ≤ 8 ∧ i = .int .i64 k ∧ u = 4 * k ∧ v = .slice A6 u c6 ∧ u ≤ c6 ∧ c6 ≤ 9223372036854775807 ∧ wz.ownsRow wr.heap.size 5 1 (.slice A6 u c6) u (((s.list.take k).flatMap Sha.wordBytes).map bv) ∧ Below wr.heap.size wr wz) (fun _ i _ => 8 - (intOf i).toNat)
      case atStart => exact ⟨0, 0, none, 0, by omega, rfl, rfl, rfl, Nat.le_refl _, by omega, own_nil _ _ _ _, Below.refl _ _⟩
      case round =>
        obtain ⟨k, u, A6, c6, hk8, rfl, hu, rfl, hc6, hc6', hown, hbel⟩ := hrel
        have HO := Lib.hid hown
        have HBZ := Lib.hid hbel
        have HU := Lib.hid hu
        have hu2 : u ≤ 32 := by omega
        clear hown hbel hu
        by_cases hk : k < 8
        · obtain ⟨x, hx⟩ : ∃ x, s.list[k]? = some x := ⟨_, List.getElem?_eq_getElem (show k < s.list.length from hk)⟩
          have HX := Lib.hid hx
          have htk : s.list.take (k + 1) = s.list.take k ++ [x] := by rw [List.take_add_one, hx]; rfl
          have HTK := Lib.hid htk
          clear hx htk
          go_wp2_with fail
          have hq : ∀ W, Below wr.heap.size wr W → W.cell? ⟨g, o + k, none⟩ = some (.int .u32 (nv x)) := fun W hW =>
            (hW.cell (p := ⟨g, o + k, none⟩) (Nat.lt_of_lt_of_le HCL.out.1 HBZ.out.size)).trans ((HBZ.out.cell (p := ⟨g, o + k, none⟩) HCL.out.1).trans (HCL.out.2 k _ (by rw [List.getElem?_map, HX.out]; rfl)))
          have x0 := nv_lo x
          have x1 := nv_hi x
          have td24 : (nv x).tdiv 16777216 = nv x / 16777216 := Int.tdiv_eq_ediv_of_nonneg x0
          have td16 : (nv x).tdiv 65536 = nv x / 65536 := Int.tdiv_eq_ediv_of_nonneg x0
          have td8 : (nv x).tdiv 256 = nv x / 256 := Int.tdiv_eq_ediv_of_nonneg x0
          have tm16 : (nv x / 65536).tmod 256 = nv x / 65536 % 256 := Int.tmod_eq_emod_of_nonneg (by omega)
          have tm8 : (nv x / 256).tmod 256 = nv x / 256 % 256 := Int.tmod_eq_emod_of_nonneg (by omega)
          have tm0 : (nv x).tmod 256 = nv x % 256 := Int.tmod_eq_emod_of_nonneg x0
          refine Free.wp_free_l 28 (fun W => Below wr.heap.size wr W) [Free.kc (.slice A6 u c6), Free.kc (.slice (some ⟨g, o, none⟩) 8 c'), Free.kc (.int .i64 (k : Int)), Free.kc (.pointer (some ⟨g, o + k, none⟩)), Free.kc (.int .u32 (nv x)), Free.kc (.int .u32 (nv x / 16777216)), Free.kc (.int .u8 (nv x / 16777216)), Free.kc (.slice (some ⟨g, o, none⟩) 8 c'), Free.kc (.int .i64 (k : Int)), Free.kc (.pointer (some ⟨g, o + k, none⟩)), Free.kc (.int .u32 (nv x)), Free.kc (.int .u32 (nv x / 65536)), Free.kc (.int .u32 ((nv x / 65536) % 256)), Free.kc (.int .u8 ((nv x / 65536) % 256)), Free.kc (.slice (some ⟨g, o, none⟩) 8 c'), Free.kc (.int .i64 (k : Int)), Free.kc (.pointer (some ⟨g, o + k, none⟩)), Free.kc (.int .u32 (nv x)), Free.kc (.int .u32 (nv x / 256)), Free.kc (.int .u32 ((nv x / 256) % 256)), Free.kc (.int .u8 ((nv x / 256) % 256)), Free.kc (.slice (some ⟨g, o, none⟩) 8 c'), Free.kc (.int .i64 (k : Int)), Free.kc (.pointer (some ⟨g, o + k, none⟩)), Free.kc (.int .u32 (nv x)), Free.kc (.int .u32 (nv x % 256)), Free.kc (.int .u8 (nv x % 256)), Free.kr (4) ([.int .u8 (nv x / 16777216), .int .u8 ((nv x / 65536) % 256), .int .u8 ((nv x / 256) % 256), .int .u8 (nv x % 256)])] (by kernel_rfl) (by kernel_rfl) (by decide) (Below.refl _ _).drew (fun w w' h g => bt h g) ?_ ?_
          · refine Free.forall_succ (Free.forall_succ (Free.forall_succ (Free.forall_succ (Free.forall_succ (Free.forall_succ (Free.forall_succ (Free.forall_succ (Free.forall_succ (Free.forall_succ (Free.forall_succ (Free.forall_succ (Free.forall_succ (Free.forall_succ (Free.forall_succ (Free.forall_succ (Free.forall_succ (Free.forall_succ (Free.forall_succ (Free.forall_succ (Free.forall_succ (Free.forall_succ (Free.forall_succ (Free.forall_succ (Free.forall_succ (Free.forall_succ (Free.forall_succ (Free.forall_succ (Free.forall_zero) ?_) ?_) ?_) ?_) ?_) ?_) ?_) ?_) ?_) ?_) ?_) ?_) ?_) ?_) ?_) ?_) ?_) ?_) ?_) ?_) ?_) ?_) ?_) ?_) ?_) ?_) ?_) ?_
            · exact Free.ob_plain _ rfl rfl fun vals wq hC hd => (by exact Free.d_move rfl (by kernel_rfl) rfl)
            · exact Free.ob_plain _ rfl rfl fun vals wq hC hd => (by exact Free.d_move rfl (by kernel_rfl) rfl)
            · exact Free.ob_plain _ rfl rfl fun vals wq hC hd => (by exact Free.d_move rfl (by kernel_rfl) rfl)
            · exact Free.ob_plain _ rfl rfl fun vals wq hC hd => (by exact Free.d_indexAddr rfl (Eq.trans (b := vals 1) (by kernel_rfl) (hd 1 (by kernel_rfl))) (Eq.trans (b := vals 2) (by kernel_rfl) (hd 2 (by kernel_rfl))) (run_idx 79 Tryd.underlying79 (by kernel_rfl) _ _ _ _ _ _ (by omega) (by omega)) rfl)
            · exact Free.ob_plain _ rfl rfl fun vals wq hC hd => (by exact Free.d_load rfl (Eq.trans (b := vals 3) (by kernel_rfl) (hd 3 (by kernel_rfl))) (by have hcc := hq wq hC; go_simp) rfl)
            · exact Free.ob_plain _ rfl rfl fun vals wq hC hd => (by exact Free.d_bin rfl (Eq.trans (b := vals 4) (by kernel_rfl) (hd 4 (by kernel_rfl))) (show _ = (.int .u32 16777216 : Value) from rfl) (by go_simp) (by first | (go_simp; done) | (go_simp; rw [IntWalk.u32_in _ (by omega)]) | (go_simp; rw [IntWalk.i64_in _ (by omega)]) | (go_simp; rw [IntWalk.u8_in _ (by omega)]) | (go_simp; rw [IntKind.wrap_u32]; exact nv_add _ _)) rfl)
            · exact Free.ob_plain _ rfl rfl fun vals wq hC hd => (by exact Free.d_conv rfl (Eq.trans (b := vals 5) (by kernel_rfl) (hd 5 (by kernel_rfl))) (by first | (go_simp; done) | (go_simp; rw [IntWalk.u32_in _ (by omega)]) | (go_simp; rw [IntWalk.i64_in _ (by omega)]) | (go_simp; rw [IntWalk.u8_in _ (by omega)]) | (go_simp; rw [IntKind.wrap_u32]; exact nv_add _ _)) (Below.refl _ _) rfl)
            · exact Free.ob_plain _ rfl rfl fun vals wq hC hd => (by exact Free.d_move rfl (by kernel_rfl) rfl)
            · exact Free.ob_plain _ rfl rfl fun vals wq hC hd => (by exact Free.d_move rfl (by kernel_rfl) rfl)
            · exact Free.ob_plain _ rfl rfl fun vals wq hC hd => (by exact Free.d_indexAddr rfl (Eq.trans (b := vals 7) (by kernel_rfl) (hd 7 (by kernel_rfl))) (Eq.trans (b := vals 8) (by kernel_rfl) (hd 8 (by kernel_rfl))) (run_idx 79 Tryd.underlying79 (by kernel_rfl) _ _ _ _ _ _ (by omega) (by omega)) rfl)
            · exact Free.ob_plain _ rfl rfl fun vals wq hC hd => (by exact Free.d_load rfl (Eq.trans (b := vals 9) (by kernel_rfl) (hd 9 (by kernel_rfl))) (by have hcc := hq wq hC; go_simp) rfl)
            · exact Free.ob_plain _ rfl rfl fun vals wq hC hd => (by exact Free.d_bin rfl (Eq.trans (b := vals 10) (by kernel_rfl) (hd 10 (by kernel_rfl))) (show _ = (.int .u32 65536 : Value) from rfl) (by go_simp) (by first | (go_simp; done) | (go_simp; rw [IntWalk.u32_in _ (by omega)]) | (go_simp; rw [IntWalk.i64_in _ (by omega)]) | (go_simp; rw [IntWalk.u8_in _ (by omega)]) | (go_simp; rw [IntKind.wrap_u32]; exact nv_add _ _)) rfl)
            · exact Free.ob_plain _ rfl rfl fun vals wq hC hd => (by exact Free.d_bin rfl (Eq.trans (b := vals 11) (by kernel_rfl) (hd 11 (by kernel_rfl))) (show _ = (.int .u32 256 : Value) from rfl) (by go_simp) (by first | (go_simp; done) | (go_simp; rw [IntWalk.u32_in _ (by omega)]) | (go_simp; rw [IntWalk.i64_in _ (by omega)]) | (go_simp; rw [IntWalk.u8_in _ (by omega)]) | (go_simp; rw [IntKind.wrap_u32]; exact nv_add _ _)) rfl)
            · exact Free.ob_plain _ rfl rfl fun vals wq hC hd => (by exact Free.d_conv rfl (Eq.trans (b := vals 12) (by kernel_rfl) (hd 12 (by kernel_rfl))) (by first | (go_simp; done) | (go_simp; rw [IntWalk.u32_in _ (by omega)]) | (go_simp; rw [IntWalk.i64_in _ (by omega)]) | (go_simp; rw [IntWalk.u8_in _ (by omega)]) | (go_simp; rw [IntKind.wrap_u32]; exact nv_add _ _)) (Below.refl _ _) rfl)
            · exact Free.ob_plain _ rfl rfl fun vals wq hC hd => (by exact Free.d_move rfl (by kernel_rfl) rfl)
            · exact Free.ob_plain _ rfl rfl fun vals wq hC hd => (by exact Free.d_move rfl (by kernel_rfl) rfl)
            · exact Free.ob_plain _ rfl rfl fun vals wq hC hd => (by exact Free.d_indexAddr rfl (Eq.trans (b := vals 14) (by kernel_rfl) (hd 14 (by kernel_rfl))) (Eq.trans (b := vals 15) (by kernel_rfl) (hd 15 (by kernel_rfl))) (run_idx 79 Tryd.underlying79 (by kernel_rfl) _ _ _ _ _ _ (by omega) (by omega)) rfl)
            · exact Free.ob_plain _ rfl rfl fun vals wq hC hd => (by exact Free.d_load rfl (Eq.trans (b := vals 16) (by kernel_rfl) (hd 16 (by kernel_rfl))) (by have hcc := hq wq hC; go_simp) rfl)
            · exact Free.ob_plain _ rfl rfl fun vals wq hC hd => (by exact Free.d_bin rfl (Eq.trans (b := vals 17) (by kernel_rfl) (hd 17 (by kernel_rfl))) (show _ = (.int .u32 256 : Value) from rfl) (by go_simp) (by first | (go_simp; done) | (go_simp; rw [IntWalk.u32_in _ (by omega)]) | (go_simp; rw [IntWalk.i64_in _ (by omega)]) | (go_simp; rw [IntWalk.u8_in _ (by omega)]) | (go_simp; rw [IntKind.wrap_u32]; exact nv_add _ _)) rfl)
            · exact Free.ob_plain _ rfl rfl fun vals wq hC hd => (by exact Free.d_bin rfl (Eq.trans (b := vals 18) (by kernel_rfl) (hd 18 (by kernel_rfl))) (show _ = (.int .u32 256 : Value) from rfl) (by go_simp) (by first | (go_simp; done) | (go_simp; rw [IntWalk.u32_in _ (by omega)]) | (go_simp; rw [IntWalk.i64_in _ (by omega)]) | (go_simp; rw [IntWalk.u8_in _ (by omega)]) | (go_simp; rw [IntKind.wrap_u32]; exact nv_add _ _)) rfl)
            · exact Free.ob_plain _ rfl rfl fun vals wq hC hd => (by exact Free.d_conv rfl (Eq.trans (b := vals 19) (by kernel_rfl) (hd 19 (by kernel_rfl))) (by first | (go_simp; done) | (go_simp; rw [IntWalk.u32_in _ (by omega)]) | (go_simp; rw [IntWalk.i64_in _ (by omega)]) | (go_simp; rw [IntWalk.u8_in _ (by omega)]) | (go_simp; rw [IntKind.wrap_u32]; exact nv_add _ _)) (Below.refl _ _) rfl)
            · exact Free.ob_plain _ rfl rfl fun vals wq hC hd => (by exact Free.d_move rfl (by kernel_rfl) rfl)
            · exact Free.ob_plain _ rfl rfl fun vals wq hC hd => (by exact Free.d_move rfl (by kernel_rfl) rfl)
            · exact Free.ob_plain _ rfl rfl fun vals wq hC hd => (by exact Free.d_indexAddr rfl (Eq.trans (b := vals 21) (by kernel_rfl) (hd 21 (by kernel_rfl))) (Eq.trans (b := vals 22) (by kernel_rfl) (hd 22 (by kernel_rfl))) (run_idx 79 Tryd.underlying79 (by kernel_rfl) _ _ _ _ _ _ (by omega) (by omega)) rfl)
            · exact Free.ob_plain _ rfl rfl fun vals wq hC hd => (by exact Free.d_load rfl (Eq.trans (b := vals 23) (by kernel_rfl) (hd 23 (by kernel_rfl))) (by have hcc := hq wq hC; go_simp) rfl)
            · exact Free.ob_plain _ rfl rfl fun vals wq hC hd => (by exact Free.d_bin rfl (Eq.trans (b := vals 24) (by kernel_rfl) (hd 24 (by kernel_rfl))) (show _ = (.int .u32 256 : Value) from rfl) (by go_simp) (by first | (go_simp; done) | (go_simp; rw [IntWalk.u32_in _ (by omega)]) | (go_simp; rw [IntWalk.i64_in _ (by omega)]) | (go_simp; rw [IntWalk.u8_in _ (by omega)]) | (go_simp; rw [IntKind.wrap_u32]; exact nv_add _ _)) rfl)
            · exact Free.ob_plain _ rfl rfl fun vals wq hC hd => (by exact Free.d_conv rfl (Eq.trans (b := vals 25) (by kernel_rfl) (hd 25 (by kernel_rfl))) (by first | (go_simp; done) | (go_simp; rw [IntWalk.u32_in _ (by omega)]) | (go_simp; rw [IntWalk.i64_in _ (by omega)]) | (go_simp; rw [IntWalk.u8_in _ (by omega)]) | (go_simp; rw [IntKind.wrap_u32]; exact nv_add _ _)) (Below.refl _ _) rfl)
            · exact Free.ob_plain _ rfl rfl fun vals wq hC hd => (by exact Free.d_build (w' := wq.alloc (.cells ([.int .u8 (nv x / 16777216), .int .u8 ((nv x / 65536) % 256), .int .u8 ((nv x / 256) % 256), .int .u8 (nv x % 256)] : List Value).toArray 5)) rfl (Free.parts4 (Eq.trans (b := vals 6) (by kernel_rfl) (hd 6 (by kernel_rfl))) (Eq.trans (b := vals 13) (by kernel_rfl) (hd 13 (by kernel_rfl))) (Eq.trans (b := vals 20) (by kernel_rfl) (hd 20 (by kernel_rfl))) (Eq.trans (b := vals 26) (by kernel_rfl) (hd 26 (by kernel_rfl)))) (by go_simp) ((Below.refl _ _).alloc (Nat.le_refl _) _) ⟨_, _, rfl, (rd_new wq [_, _, _, _] _ _).more (by unfold World.alloc; simp), Nat.le_refl _, by rw [maxLen_eq]; omega⟩)
          · intro vals wq hC hd
            have e0 : vals 0 = (.slice A6 u c6) := hd 0 (by decide)
            have e1 : vals 1 = (.slice (some ⟨g, o, none⟩) 8 c') := hd 1 (by decide)
            have e2 : vals 2 = (.int .i64 (k : Int)) := hd 2 (by decide)
            have e3 : vals 3 = (.pointer (some ⟨g, o + k, none⟩)) := hd 3 (by decide)
            have e4 : vals 4 = (.int .u32 (nv x)) := hd 4 (by decide)
            have e5 : vals 5 = (.int .u32 (nv x / 16777216)) := hd 5 (by decide)
            have e6 : vals 6 = (.int .u8 (nv x / 16777216)) := hd 6 (by decide)
            have e7 : vals 7 = (.slice (some ⟨g, o, none⟩) 8 c') := hd 7 (by decide)
            have e8 : vals 8 = (.int .i64 (k : Int)) := hd 8 (by decide)
            have e9 : vals 9 = (.pointer (some ⟨g, o + k, none⟩)) := hd 9 (by decide)
            have e10 : vals 10 = (.int .u32 (nv x)) := hd 10 (by decide)
            have e11 : vals 11 = (.int .u32 (nv x / 65536)) := hd 11 (by decide)
            have e12 : vals 12 = (.int .u32 ((nv x / 65536) % 256)) := hd 12 (by decide)
            have e13 : vals 13 = (.int .u8 ((nv x / 65536) % 256)) := hd 13 (by decide)
            have e14 : vals 14 = (.slice (some ⟨g, o, none⟩) 8 c') := hd 14 (by decide)
            have e15 : vals 15 = (.int .i64 (k : Int)) := hd 15 (by decide)
            have e16 : vals 16 = (.pointer (some ⟨g, o + k, none⟩)) := hd 16 (by decide)
            have e17 : vals 17 = (.int .u32 (nv x)) := hd 17 (by decide)
            have e18 : vals 18 = (.int .u32 (nv x / 256)) := hd 18 (by decide)
            have e19 : vals 19 = (.int .u32 ((nv x / 256) % 256)) := hd 19 (by decide)
            have e20 : vals 20 = (.int .u8 ((nv x / 256) % 256)) := hd 20 (by decide)
            have e21 : vals 21 = (.slice (some ⟨g, o, none⟩) 8 c') := hd 21 (by decide)
            have e22 : vals 22 = (.int .i64 (k : Int)) := hd 22 (by decide)
            have e23 : vals 23 = (.pointer (some ⟨g, o + k, none⟩)) := hd 23 (by decide)
            have e24 : vals 24 = (.int .u32 (nv x)) := hd 24 (by decide)
            have e25 : vals 25 = (.int .u32 (nv x % 256)) := hd 25 (by decide)
            have e26 : vals 26 = (.int .u8 (nv x % 256)) := hd 26 (by decide)
            obtain ⟨A27, k27, e27, rd27, le27, mx27⟩ := hd 27 (by decide)
            simp only [Free.frameOf, List.range, List.range.loop, List.foldl, Free.dstOf, List.getElem?_toArray, List.getElem?_cons_zero, List.getElem?_cons_succ, Option.bind_some, Act.put, List.setIfInBounds_toArray, List.set_cons_zero, List.set_cons_succ, e0, e1, e2, e3, e4, e5, e6, e7, e8, e9, e10, e11, e12, e13, e14, e15, e16, e17, e18, e19, e20, e21, e22, e23, e24, e25, e26, e27]
            clear hd e0 e1 e2 e3 e4 e5 e6 e7 e8 e9 e10 e11 e12 e13 e14 e15 e16 e17 e18 e19 e20 e21 e22 e23 e24 e25 e26 e27
            have HOK := Lib.hid (own_keep HO.out hC (Nat.le_refl _))
            have HBQ := Lib.hid (HBZ.out.trans (hC.mono HBZ.out.size))
            refine wl_app rfl (.tmp 28) (.tmp 55) 50 rfl _ 5 1 1 bytesT _ u _ rfl HOK.out wq.heap.size A27 4 k27 _ rfl rd27 rfl (by simp [Value.oneCell']) (by rw [maxLen_eq]; omega) (by omega) HBQ.out.size ?_
            intro A3 c3 w3 hown3 hg3 hat3 hb3 hd3 hd3'
            have HO3 := Lib.hid hown3
            have HB3 := Lib.hid (HBQ.out.trans hb3)
            have HC3 := Lib.hid (And.intro hd3 hd3')
            clear hown3 hg3 hat3 hb3 hd3 hd3' hq
            go_wp2
            go_roundw
            case rel =>
              refine ⟨k + 1, u + 4, A3, c3, by omega, by go_num, by have := HU.out; omega, rfl, HC3.out.1, by have := HC3.out.2; rw [maxLen_eq] at this; exact this, ?_, HB3.out⟩
              rw [HTK.out, List.flatMap_append, List.flatMap_singleton]
              exact own_snocs HO3.out (wb_list x _ _ _ _ (by omega) (by omega) (by omega) (by omega))
            case measure => simp [intOf]; omega
        · obtain rfl : k = 8 := by omega
          have hql : s.list.take 8 = s.list := rfl
          have hrd := Rd.of_own HO.out
          rw [hql] at hrd
          have hlen : (s.list.flatMap Sha.wordBytes).length = u := by have := HU.out; rw [this]; rfl
          have HRX := Lib.hid (And.intro hrd hlen)
          have hend : s.list.flatMap Sha.wordBytes = Sha.sum l := by
            rw [HSUM.out, HF.out]; rfl
          have HEND := Lib.hid hend
          have HBW := Lib.hid (HB2.out.trans (HB.out.mono HB2.out.size))
          have HBX := Lib.hid (HBW.out.trans (HBZ.out.mono HBW.out.size))
          clear hrd hql hend hlen
          go_wp2_with (first
            | (refine wl_str rfl 50 9 (.tmp 57) rfl 5 Tryd.underlying50 Tryd.underlying5 Tryd.underlying9 A6 u c6 rfl _ (s.list.flatMap Sha.wordBytes) HRX.out.1 HRX.out.2 ?_))
          go_ret
          exact ⟨by rw [← HEND.out]; rfl, HBX.out⟩
end Go.Proofs.YtoiilhbjlfdfpaaDoor
