/- MHeadA: several texts of this claim in one file. No statement of the seat is proved here. -/
import Derived.Test.YtfgpaepdlmnhaaaDoorMHeadP
import Derived.Deep.CutRange
import Derived.Test.YtfgpaepdlmnhaaaDoorMSealA
namespace Go.Proofs.YtfgpaepdlmnhaaaDoor
set_option maxRecDepth 100000
set_option linter.unusedVariables false
open Go.RowKit
theorem drop_cons {α : Type} {l : List α} {t : Nat} {x : α} (h : l[t]? = some x) : l.drop t = x :: l.drop (t + 1) := by
  obtain ⟨h1, h2⟩ := List.getElem?_eq_some_iff.1 h
  rw [List.drop_eq_getElem_cons h1, h2]
set_option maxHeartbeats 16000000 in
theorem srow_any (A : Option Addr) (n c : Nat) (l : List Hd.Sg) (size : Int) (w : World) (h : Sq sgc 4 w A n c l) (hl : ∀ s ∈ l, s.rt.length ≤ 1000) :
    Calls Tryd.prog 162 #[.slice A n c, .int .i64 size] w (RetB (Hd.row l size) w) := by
  have hc := h.cap
  have hm := h.max
  rw [maxLen_eq] at hm
  have hlen := h.len
  by_cases hbig : 64 < n
  · have HE := Lib.hid (show Hd.row l size = false by unfold Hd.row; rw [decide_eq_false (by omega), Bool.false_and])
    clear h hl hlen
    go_enter Tryd.func162, Tryd.ntmps162
    go_wp2
    go_ret
    exact ⟨by rw [HE.out]; rfl, Below.refl _ _⟩
  have HE := Lib.hid (show Hd.row l size = Hd.rowFrom l 0 size by unfold Hd.row; rw [decide_eq_true (by omega), Bool.true_and])
  have HS := Lib.hid h
  have HL := Lib.hid hl
  have HLN := Lib.hid hlen
  clear h hl hlen
  go_enter Tryd.func162, Tryd.ntmps162
  go_wp2
  go_loopw [5, 14] (fun va vi wr => ∃ (k : Nat) (a : Int), va = .int .i64 a ∧ vi = .int .i64 (k : Int) ∧ k ≤ n ∧ Hid (Hd.rowFrom l 0 size = Hd.rowFrom (l.drop k) a size ∧ Below w.heap.size w wr)) (fun _ vi _ => n - (intOf vi).toNat)
  case atStart => exact ⟨0, 0, rfl, rfl, by omega, Lib.hid ⟨rfl, Below.refl _ _⟩⟩
  case round =>
    obtain ⟨k, a, rfl, rfl, hk, H⟩ := hrel
    have HBL := Lib.hid H.out.2
    by_cases hlt : k < n
    · obtain ⟨b, off, s, hA, hb, hs, hcs⟩ := HS.out.at sgc_len (by omega) hlt
      subst hA
      have s0 := hcs wr HBL.out 0 _ rfl
      rw [Nat.add_zero] at s0
      have s1 := hcs wr HBL.out 1 _ rfl
      have s2 := hcs wr HBL.out 2 _ rfl
      have s3 := hcs wr HBL.out 3 _ rfl
      have HRW := Lib.hid (show Hd.rowFrom (l.drop k) a size = (decide (s.fr = a) && (s.ok && Hd.rowFrom (l.drop (k + 1)) s.to size)) by rw [drop_cons hs]; rfl)
      have hsl := HL.out s (List.mem_of_getElem? hs)
      have CG := Lib.hid (fun W => sgood_any s W hsl)
      clear hcs hs
      unfold sgv at CG
      have e3 := strEq s.rt s.rt
      rw [decide_eq_true rfl] at e3
      by_cases hfr : s.fr = a
      · subst hfr
        cases hok : s.ok with
        | true =>
          have HF := Lib.hid (show Hd.rowFrom l 0 size = Hd.rowFrom (l.drop (k + 1)) s.to size by rw [H.out.1, HRW.out, hok]; simp)
          have HOK := Lib.hid hok
          clear hok
          go_upto_region 7 with fail
          have hbx : Below wr.heap.size wr (wr.alloc (.cells #[.int .i64 s.fr, .int .i64 s.to, .int .i64 s.lk, sv s.rt] 130)) := (Below.refl _ wr).alloc (Nat.le_refl _) _
          have hrx := row_new wr #[.int .i64 s.fr, .int .i64 s.to, .int .i64 s.lk, sv s.rt] 130
          obtain ⟨wy, hwy⟩ : ∃ wy, wr.alloc (.cells #[.int .i64 s.fr, .int .i64 s.to, .int .i64 s.lk, sv s.rt] 130) = wy := ⟨_, rfl⟩
          rw [hwy] at hbx hrx ⊢
          have HBY := Lib.hid (bt HBL.out hbx)
          have HRX := Lib.hid hrx
          have y0 := hrx.cellQ 0 _ rfl
          have y1 := hrx.cellQ 1 _ rfl
          have y2 := hrx.cellQ 2 _ rfl
          have y3 := hrx.cellQ 3 _ rfl
          clear hbx hrx hwy s0 s1 s2 s3
          go_wp2_with fail
          (with_reducible refine (CG.out wy).mono ?_)
          rintro e w3 ⟨rfl, hb3⟩
          rw [HOK.out]
          have HB3 := Lib.hid (bt HBY.out hb3)
          have hr3 := HRX.out.belowS hb3 (Nat.le_refl _)
          clear y0 y1 y2 y3
          have y1 := hr3.cellQ 1 _ rfl
          clear hb3 hr3
          go_wp2
          go_roundw
          case rel => exact ⟨k + 1, s.to, rfl, by go_num, by omega, Lib.hid ⟨HF.out, HB3.out⟩⟩
          case measure => simp [intOf]; omega
        | false =>
          have HF := Lib.hid (show Hd.row l size = false by rw [HE.out, H.out.1, HRW.out, hok]; simp)
          have HOK := Lib.hid hok
          clear hok
          go_upto_region 7 with fail
          have hbx : Below wr.heap.size wr (wr.alloc (.cells #[.int .i64 s.fr, .int .i64 s.to, .int .i64 s.lk, sv s.rt] 130)) := (Below.refl _ wr).alloc (Nat.le_refl _) _
          have hrx := row_new wr #[.int .i64 s.fr, .int .i64 s.to, .int .i64 s.lk, sv s.rt] 130
          obtain ⟨wy, hwy⟩ : ∃ wy, wr.alloc (.cells #[.int .i64 s.fr, .int .i64 s.to, .int .i64 s.lk, sv s.rt] 130) = wy := ⟨_, rfl⟩
          rw [hwy] at hbx hrx ⊢
          have HBY := Lib.hid (bt HBL.out hbx)
          have HRX := Lib.hid hrx
          have y0 := hrx.cellQ 0 _ rfl
          have y1 := hrx.cellQ 1 _ rfl
          have y2 := hrx.cellQ 2 _ rfl
          have y3 := hrx.cellQ 3 _ rfl
          clear hbx hrx hwy s0 s1 s2 s3
          go_wp2_with fail
          (with_reducible refine (CG.out wy).mono ?_)
          rintro e w3 ⟨rfl, hb3⟩
          rw [HOK.out]
          have HB3 := Lib.hid (bt HBY.out hb3)
          clear y0 y1 y2 y3 hb3
          go_wp2
          go_ret
          exact ⟨by rw [HF.out]; rfl, HB3.out⟩
      · have HF := Lib.hid (show Hd.row l size = false by rw [HE.out, H.out.1, HRW.out, decide_eq_false hfr]; rfl)
        go_upto_region 7 with fail
        have hbx : Below wr.heap.size wr (wr.alloc (.cells #[.int .i64 s.fr, .int .i64 s.to, .int .i64 s.lk, sv s.rt] 130)) := (Below.refl _ wr).alloc (Nat.le_refl _) _
        have hrx := row_new wr #[.int .i64 s.fr, .int .i64 s.to, .int .i64 s.lk, sv s.rt] 130
        obtain ⟨wy, hwy⟩ : ∃ wy, wr.alloc (.cells #[.int .i64 s.fr, .int .i64 s.to, .int .i64 s.lk, sv s.rt] 130) = wy := ⟨_, rfl⟩
        rw [hwy] at hbx hrx ⊢
        have HBY := Lib.hid (bt HBL.out hbx)
        have HRX := Lib.hid hrx
        have y0 := hrx.cellQ 0 _ rfl
        have y1 := hrx.cellQ 1 _ rfl
        have y2 := hrx.cellQ 2 _ rfl
        have y3 := hrx.cellQ 3 _ rfl
        clear hbx hrx hwy s0 s1 s2 s3
        go_wp2
        go_ret
        exact ⟨by rw [HF.out]; rfl, HBY.out⟩
    · obtain rfl : n = k := by omega
      have HF := Lib.hid (show Hd.row l size = decide (a = size) by rw [HE.out, H.out.1, List.drop_of_length_le (by rw [HLN.out]; exact Nat.le_refl _)]; rfl)
      by_cases hs : a = size
      · have HG := Lib.hid (decide_eq_true hs)
        subst hs
        go_wp2
        go_ret
        exact ⟨by rw [HF.out, HG.out]; rfl, HBL.out⟩
      · have HG := Lib.hid (decide_eq_false hs)
        have hb : (a == size) = false := beq_eq_false_iff_ne.2 hs
        go_wp2
        go_ret
        exact ⟨by rw [HF.out, HG.out]; rfl, HBL.out⟩
end Go.Proofs.YtfgpaepdlmnhaaaDoor

namespace Go.Proofs.YtfgpaepdlmnhaaaDoor
set_option maxRecDepth 100000
set_option linter.unusedVariables false
open Go.RowKit
/-- A head, as a value. -/
def hdv (A : Option Addr) (n c : Nat) (h : Hd.H) : Value := .agg #[.int .i64 h.size, sv h.log, .slice A n c]
set_option maxHeartbeats 4000000 in
theorem hright_any (A : Option Addr) (n c : Nat) (h : Hd.H) (w : World) (hs : Sq sgc 4 w A n c h.segs) (hl : ∀ s ∈ h.segs, s.rt.length ≤ 1000) (hlog : h.log.length ≤ 1000) : Calls Tryd.prog 137 #[hdv A n c h] w (RetB h.ok w) := by
  have HROW := Lib.hid (row_new w #[.int .i64 h.size, sv h.log, .slice A n c] 24)
  have HB0 := Lib.hid (show Below w.heap.size w (w.alloc (.cells #[.int .i64 h.size, sv h.log, .slice A n c] 24)) from (Below.refl _ w).alloc (Nat.le_refl _) _)
  have x0 := HROW.out.cellQ 0 _ rfl
  have x1 := HROW.out.cellQ 1 _ rfl
  have x2 := HROW.out.cellQ 2 _ rfl
  have CW := Lib.hid (fun W (hb : Below w.heap.size w W) => srow_any A n c h.segs h.size W (hs.keep hb) hl)
  have hc := hs.cap
  have hm := hs.max
  rw [maxLen_eq] at hm
  have hlen := hs.len
  clear hs
  unfold hdv
  by_cases h1 : 0 ≤ h.size
  · by_cases h2 : h.size ≤ 1000
    · by_cases h3 : h.log.length = 32
      · have HE := Lib.hid (show h.ok = Hd.row h.segs h.size by unfold Hd.H.ok; simp [h1, h2, h3])
        have zl := strLen h.log
        rw [h3] at zl
        go_enter Tryd.func137, Tryd.ntmps137
        go_wp2_with fail
        (with_reducible refine (CW.out _ HB0.out).mono ?_)
        rintro e w1 ⟨rfl, hb1⟩
        have HB1 := Lib.hid (bt HB0.out hb1)
        clear hb1
        go_wp2
        go_ret
        exact ⟨by rw [HE.out]; rfl, HB1.out⟩
      · have HE := Lib.hid (show h.ok = false by unfold Hd.H.ok; simp [h1, h2, h3])
        have zl := strLen h.log
        have gl : ((h.log.length : Int) == 32) = false := beq_eq_false_iff_ne.2 (by omega)
        go_enter Tryd.func137, Tryd.ntmps137
        go_wp2
        go_ret
        exact ⟨by rw [HE.out]; rfl, HB0.out⟩
    · have HE := Lib.hid (show h.ok = false by unfold Hd.H.ok; simp [h1, h2])
      go_enter Tryd.func137, Tryd.ntmps137
      go_wp2
      go_ret
      exact ⟨by rw [HE.out]; rfl, HB0.out⟩
  · have HE := Lib.hid (show h.ok = false by unfold Hd.H.ok; simp [h1])
    go_enter Tryd.func137, Tryd.ntmps137
    go_wp2
    go_ret
    exact ⟨by rw [HE.out]; rfl, HB0.out⟩
end Go.Proofs.YtfgpaepdlmnhaaaDoor

namespace Go.Proofs.YtfgpaepdlmnhaaaDoor
set_option maxRecDepth 100000
set_option linter.unusedVariables false
open Go.RowKit
theorem run_idxK {P : Program} {w : World} {k : Nat} (T : TypeId) {e : TypeId} (hu : P.underlying T = some (.slice e)) (he : (P.info? (P.elem T)).map (·.size) = some k) (b off n c i : Nat) (z : Int) (hz : z = (i : Int)) (hi : i < n) :
    (Instr.indexAt T (.slice (some ⟨b, off, none⟩) n c) (.int .i64 z)).run P w = .ok (.pointer (some ⟨b, off + i * k, none⟩)) w := by
  subst hz
  have hue : P.elem T = e := by simp [Program.elem, hu]
  rw [run_indexAt_slice w T _ n c .i64 _ (by rw [hue]; exact hu), if_pos ⟨by omega, by omega⟩, run_sizeOf_of _ k he, Result.andThen_ok, Int.toNat_natCast]
  by_cases h0 : i * k = 0
  · rw [h0]; simp [Addr.add]
  · simp [Addr.add, h0]
/-- Where the next sign should begin. -/
def Hd.beg (l : List Hd.Sg) : Nat → Int
  | 0 => match l[0]? with | some s => s.fr | none => 0
  | k + 1 => match l[k]? with | some s => s.to | none => 0
theorem Hd.beg_succ {l : List Hd.Sg} {k : Nat} {s : Hd.Sg} (h : l[k]? = some s) : Hd.beg l (k + 1) = s.to := by simp only [Hd.beg]; rw [h]
theorem Hd.row_beg {l : List Hd.Sg} {s0 : Hd.Sg} (h : l[0]? = some s0) (size : Int) : Hd.row l size = (decide (l.length ≤ 64) && (decide (s0.fr = 0) && Hd.rowFrom l (Hd.beg l 0) size)) := by
  unfold Hd.row Hd.beg
  rw [h]
  congr 1
  cases l with
  | nil => simp at h
  | cons s l =>
    simp only [List.getElem?_cons_zero, Option.some.injEq] at h
    subst h
    unfold Hd.rowFrom
    simp
theorem Hd.rowFrom_at {l : List Hd.Sg} {k : Nat} {s : Hd.Sg} (h : l[k]? = some s) (a size : Int) : Hd.rowFrom (l.drop k) a size = (decide (s.fr = a) && (s.ok && Hd.rowFrom (l.drop (k + 1)) s.to size)) := by
  rw [drop_cons h]; rfl
set_option maxRecDepth 100000 in
set_option maxHeartbeats 16000000 in
theorem rrow_any (A : Option Addr) (n c : Nat) (l : List Hd.Sg) (size : Int) (w : World) (h : Sq sgc 4 w A n c l) (hl : ∀ s ∈ l, s.rt.length ≤ 1000) :
    Calls Tryd.prog 93 #[.slice A n c, .int .i64 size] w (RetB (Hd.row l size) w) := by
  have hc := h.cap
  have hm := h.max
  rw [maxLen_eq] at hm
  have hlen := h.len
  by_cases h0 : n = 0
  · subst h0
    obtain rfl : l = [] := List.length_eq_zero_iff.1 hlen
    have HE := Lib.hid (show Hd.row [] size = decide (size = 0) by simp [Hd.row, Hd.rowFrom, eq_comm])
    clear h hl hlen
    by_cases hz : size = 0
    · have HF := Lib.hid (show Hd.row [] size = true by rw [HE.out]; exact decide_eq_true hz)
      go_enter Tryd.func93, Tryd.ntmps93
      go_wp2
      go_ret
      exact ⟨by rw [HF.out]; rfl, Below.refl _ _⟩
    · have HF := Lib.hid (show Hd.row [] size = false by rw [HE.out]; exact decide_eq_false hz)
      have hb : (size == 0) = false := beq_eq_false_iff_ne.2 hz
      go_enter Tryd.func93, Tryd.ntmps93
      go_wp2
      go_ret
      exact ⟨by rw [HF.out]; rfl, Below.refl _ _⟩
  obtain ⟨b, off, f0, hA, hb, hf0, hcf⟩ := h.at sgc_len (by omega) (show 0 < n by omega)
  subst hA
  have HR0 := Lib.hid (Hd.row_beg hf0 size)
  have HCF := Lib.hid hcf
  have HAT := Lib.hid (show ∀ t, t < n → ∃ s, l[t]? = some s ∧ s ∈ l ∧ ∀ (W : World), Below w.heap.size w W → ∀ j v, (sgc s)[j]? = some v → W.cell? ⟨b, off + t * 4 + j, none⟩ = some v from fun t ht => by
    obtain ⟨b', off', s, hA, _, hs, hcs⟩ := h.at sgc_len (by omega) ht
    injection hA with hA
    injection hA with e1 e2
    subst e1 e2
    exact ⟨s, hs, List.mem_of_getElem? hs, hcs⟩)
  have HL := Lib.hid hl
  have HLN := Lib.hid hlen
  have HF0 := Lib.hid hf0
  clear h hl hlen hcf hf0
  go_enter Tryd.func93, Tryd.ntmps93
  go_wp2
  go_loopw [5] (fun vi wr => ∃ (k : Nat), vi = .int .i64 (k : Int) ∧ k ≤ n ∧ Hid (Hd.rowFrom l (Hd.beg l 0) size = Hd.rowFrom (l.drop k) (Hd.beg l k) size ∧ Below w.heap.size w wr)) (fun vi _ => n - (intOf vi).toNat)
  case atStart => exact ⟨0, rfl, by omega, Lib.hid ⟨rfl, Below.refl _ _⟩⟩
  case round =>
    obtain ⟨k, rfl, hk, H⟩ := hrel
    have HBL := Lib.hid H.out.2
    have HEQ := Lib.hid H.out.1
    by_cases hlt : k < n
    · obtain ⟨s, hs, hmem, hcs⟩ := HAT.out k hlt
      have HCS := Lib.hid hcs
      have HS := Lib.hid hs
      have HRW := Lib.hid (Hd.rowFrom_at hs (Hd.beg l k) size)
      have CG := Lib.hid (fun W => rgood_any s W (HL.out s hmem))
      unfold sgv at CG
      clear hcs hs hmem
      cases hok : s.ok with
      | false =>
        have HOK := Lib.hid hok
        have HF := Lib.hid (show Hd.row l size = false by rw [HR0.out, HEQ.out, HRW.out, hok]; simp)
        clear hok
        go_wp2_with fail
        refine Free.wp_free_l 26 (fun W => Below wr.heap.size wr W) [Free.kc (.slice (some ⟨b, off, none⟩) n c), Free.kc (.int .i64 ((k : Nat) : Int)), Free.kc (.pointer (some ⟨b, off + k * 4, none⟩)), Free.kc (.agg #[.int .i64 s.fr, .int .i64 s.to, .int .i64 s.lk, sv s.rt]), Free.kc (.bool false), Free.kc (.bool true), Free.kc (.bool true), Free.kc (undef), Free.kc (undef), Free.kc (undef), Free.kc (undef), Free.kc (undef), Free.kc (undef), Free.kc (undef), Free.kc (undef), Free.kc (undef), Free.kc (undef), Free.kc (undef), Free.kc (undef), Free.kc (undef), Free.kc (undef), Free.kc (undef), Free.kc (undef), Free.kc (undef), Free.kc (undef), Free.kc (.bool true)] (by kernel_rfl) (by kernel_rfl) (by decide) (Below.refl _ _).drew (fun w w' h g => bt h g) ?_ ?_
        · refine Free.forall_succ (Free.forall_succ (Free.forall_succ (Free.forall_succ (Free.forall_succ (Free.forall_succ (Free.forall_succ (Free.forall_succ (Free.forall_succ (Free.forall_succ (Free.forall_succ (Free.forall_succ (Free.forall_succ (Free.forall_succ (Free.forall_succ (Free.forall_succ (Free.forall_succ (Free.forall_succ (Free.forall_succ (Free.forall_succ (Free.forall_succ (Free.forall_succ (Free.forall_succ (Free.forall_succ (Free.forall_succ (Free.forall_succ (Free.forall_zero) ?_) ?_) ?_) ?_) ?_) ?_) ?_) ?_) ?_) ?_) ?_) ?_) ?_) ?_) ?_) ?_) ?_) ?_) ?_) ?_) ?_) ?_) ?_) ?_) ?_) ?_
          · exact Free.ob_plain _ rfl rfl fun vals wq hC hd => (by exact Free.d_move rfl (by kernel_rfl) rfl)
          · exact Free.ob_plain _ rfl rfl fun vals wq hC hd => (by exact Free.d_move rfl (by kernel_rfl) rfl)
          · exact Free.ob_plain _ rfl rfl fun vals wq hC hd => (by exact Free.d_indexAddr rfl (Eq.trans (b := vals 0) (by kernel_rfl) (hd 0 (by kernel_rfl))) (Eq.trans (b := vals 1) (by kernel_rfl) (hd 1 (by kernel_rfl))) (run_idxK (k := 4) 35 Tryd.underlying35 (by kernel_rfl) b off n c k _ (by first | rfl | omega) (by omega)) rfl)
          · exact Free.ob_plain _ rfl rfl fun vals wq hC hd => (by exact Free.d_load rfl (Eq.trans (b := vals 2) (by kernel_rfl) (hd 2 (by kernel_rfl))) (by have s0 := HCS.out wq (bt HBL.out hC) 0 _ rfl; have s1 := HCS.out wq (bt HBL.out hC) 1 _ rfl; have s2 := HCS.out wq (bt HBL.out hC) 2 _ rfl; have s3 := HCS.out wq (bt HBL.out hC) 3 _ rfl; rw [Nat.add_zero] at s0; go_simp) rfl)
          · exact Free.ob_plain _ rfl rfl fun vals wq hC hd => (by exact Free.d_call Tryd.func142 (by kernel_rfl) (by kernel_rfl) rfl rfl (Free.arg1 (Eq.trans (b := vals 3) (by kernel_rfl) (hd 3 (by kernel_rfl)))) ((CG.out wq).mono fun e w2 h => ⟨_, h.1, congrArg Value.bool HOK.out, h.2⟩))
          · exact Free.ob_plain _ rfl rfl fun vals wq hC hd => (by exact Free.d_un rfl (Eq.trans (b := vals 4) (by kernel_rfl) (hd 4 (by kernel_rfl))) (by go_simp) rfl)
          · exact Free.ob_plain _ rfl rfl fun vals wq hC hd => (by exact Free.d_move rfl (Eq.trans (b := vals 5) (by kernel_rfl) (hd 5 (by kernel_rfl))) rfl)
          · exact Free.ob_skip _ rfl 6 23 false rfl rfl fun vals wq hC hd => ⟨.inl (Eq.trans (b := vals 6) (by kernel_rfl) (hd 6 (by kernel_rfl))), rfl⟩
          · exact Free.ob_skip _ rfl 6 23 false rfl rfl fun vals wq hC hd => ⟨.inl (Eq.trans (b := vals 6) (by kernel_rfl) (hd 6 (by kernel_rfl))), rfl⟩
          · exact Free.ob_skip _ rfl 6 23 false rfl rfl fun vals wq hC hd => ⟨.inl (Eq.trans (b := vals 6) (by kernel_rfl) (hd 6 (by kernel_rfl))), rfl⟩
          · exact Free.ob_skip _ rfl 9 26 true rfl rfl fun vals wq hC hd => ⟨.inr (Eq.trans (b := vals 9) (by kernel_rfl) (hd 9 (by kernel_rfl))), rfl⟩
          · exact Free.ob_skip _ rfl 9 26 true rfl rfl fun vals wq hC hd => ⟨.inr (Eq.trans (b := vals 9) (by kernel_rfl) (hd 9 (by kernel_rfl))), rfl⟩
          · exact Free.ob_skip _ rfl 9 26 true rfl rfl fun vals wq hC hd => ⟨.inr (Eq.trans (b := vals 9) (by kernel_rfl) (hd 9 (by kernel_rfl))), rfl⟩
          · exact Free.ob_skip _ rfl 9 26 true rfl rfl fun vals wq hC hd => ⟨.inr (Eq.trans (b := vals 9) (by kernel_rfl) (hd 9 (by kernel_rfl))), rfl⟩
          · exact Free.ob_skip _ rfl 9 26 true rfl rfl fun vals wq hC hd => ⟨.inr (Eq.trans (b := vals 9) (by kernel_rfl) (hd 9 (by kernel_rfl))), rfl⟩
          · exact Free.ob_skip _ rfl 9 26 true rfl rfl fun vals wq hC hd => ⟨.inr (Eq.trans (b := vals 9) (by kernel_rfl) (hd 9 (by kernel_rfl))), rfl⟩
          · exact Free.ob_skip _ rfl 9 26 true rfl rfl fun vals wq hC hd => ⟨.inr (Eq.trans (b := vals 9) (by kernel_rfl) (hd 9 (by kernel_rfl))), rfl⟩
          · exact Free.ob_skip _ rfl 9 26 true rfl rfl fun vals wq hC hd => ⟨.inr (Eq.trans (b := vals 9) (by kernel_rfl) (hd 9 (by kernel_rfl))), rfl⟩
          · exact Free.ob_skip _ rfl 9 26 true rfl rfl fun vals wq hC hd => ⟨.inr (Eq.trans (b := vals 9) (by kernel_rfl) (hd 9 (by kernel_rfl))), rfl⟩
          · exact Free.ob_skip _ rfl 9 26 true rfl rfl fun vals wq hC hd => ⟨.inr (Eq.trans (b := vals 9) (by kernel_rfl) (hd 9 (by kernel_rfl))), rfl⟩
          · exact Free.ob_skip _ rfl 9 26 true rfl rfl fun vals wq hC hd => ⟨.inr (Eq.trans (b := vals 9) (by kernel_rfl) (hd 9 (by kernel_rfl))), rfl⟩
          · exact Free.ob_skip _ rfl 9 26 true rfl rfl fun vals wq hC hd => ⟨.inr (Eq.trans (b := vals 9) (by kernel_rfl) (hd 9 (by kernel_rfl))), rfl⟩
          · exact Free.ob_skip _ rfl 9 26 true rfl rfl fun vals wq hC hd => ⟨.inr (Eq.trans (b := vals 9) (by kernel_rfl) (hd 9 (by kernel_rfl))), rfl⟩
          · exact Free.ob_skip _ rfl 9 26 true rfl rfl fun vals wq hC hd => ⟨.inr (Eq.trans (b := vals 9) (by kernel_rfl) (hd 9 (by kernel_rfl))), rfl⟩
          · exact Free.ob_skip _ rfl 6 23 false rfl rfl fun vals wq hC hd => ⟨.inl (Eq.trans (b := vals 6) (by kernel_rfl) (hd 6 (by kernel_rfl))), rfl⟩
          · exact Free.ob_plain _ rfl rfl fun vals wq hC hd => (by exact Free.d_pick rfl (Eq.trans (b := vals 6) (by kernel_rfl) (hd 6 (by kernel_rfl))) rfl rfl)
        · intro vals wq hC hd
          have e0 : vals 0 = (.slice (some ⟨b, off, none⟩) n c) := hd 0 (by decide)
          have e1 : vals 1 = (.int .i64 ((k : Nat) : Int)) := hd 1 (by decide)
          have e2 : vals 2 = (.pointer (some ⟨b, off + k * 4, none⟩)) := hd 2 (by decide)
          have e3 : vals 3 = (.agg #[.int .i64 s.fr, .int .i64 s.to, .int .i64 s.lk, sv s.rt]) := hd 3 (by decide)
          have e4 : vals 4 = (.bool false) := hd 4 (by decide)
          have e5 : vals 5 = (.bool true) := hd 5 (by decide)
          have e6 : vals 6 = (.bool true) := hd 6 (by decide)
          have e7 : vals 7 = (undef) := hd 7 (by decide)
          have e8 : vals 8 = (undef) := hd 8 (by decide)
          have e9 : vals 9 = (undef) := hd 9 (by decide)
          have e10 : vals 10 = (undef) := hd 10 (by decide)
          have e11 : vals 11 = (undef) := hd 11 (by decide)
          have e12 : vals 12 = (undef) := hd 12 (by decide)
          have e13 : vals 13 = (undef) := hd 13 (by decide)
          have e14 : vals 14 = (undef) := hd 14 (by decide)
          have e15 : vals 15 = (undef) := hd 15 (by decide)
          have e16 : vals 16 = (undef) := hd 16 (by decide)
          have e17 : vals 17 = (undef) := hd 17 (by decide)
          have e18 : vals 18 = (undef) := hd 18 (by decide)
          have e19 : vals 19 = (undef) := hd 19 (by decide)
          have e20 : vals 20 = (undef) := hd 20 (by decide)
          have e21 : vals 21 = (undef) := hd 21 (by decide)
          have e22 : vals 22 = (undef) := hd 22 (by decide)
          have e23 : vals 23 = (undef) := hd 23 (by decide)
          have e24 : vals 24 = (undef) := hd 24 (by decide)
          have e25 : vals 25 = (.bool true) := hd 25 (by decide)
          simp only [Free.frameOf, List.range, List.range.loop, List.foldl, Free.dstOf, List.getElem?_toArray, List.getElem?_cons_zero, List.getElem?_cons_succ, Option.bind_some, Act.put, List.setIfInBounds_toArray, List.set_cons_zero, List.set_cons_succ, e0, e1, e2, e3, e4, e5, e6, e7, e8, e9, e10, e11, e12, e13, e14, e15, e16, e17, e18, e19, e20, e21, e22, e23, e24, e25]
          refine wpList_nil ?_
          clear hd e0 e1 e2 e3 e4 e5 e6 e7 e8 e9 e10 e11 e12 e13 e14 e15 e16 e17 e18 e19 e20 e21 e22 e23 e24 e25
          have HBW := Lib.hid (bt HBL.out hC)
          clear hC
          go_wp2
          go_ret
          exact ⟨by rw [HF.out]; rfl, HBW.out⟩
      | true =>
        have HOK := Lib.hid hok
        by_cases hk0 : k = 0
        · have HK0 := Lib.hid hk0
          have HN := Lib.hid (show Hd.rowFrom l (Hd.beg l 0) size = Hd.rowFrom (l.drop (k + 1)) (Hd.beg l (k + 1)) size by rw [HEQ.out, HRW.out, hok, Hd.beg_succ HS.out, show Hd.beg l k = s.fr by have hs := HS.out; rw [hk0] at hs ⊢; simp only [Hd.beg]; rw [hs]]; simp)
          clear hok hk0
          go_wp2_with fail
          refine Free.wp_free_l 26 (fun W => Below wr.heap.size wr W) [Free.kc (.slice (some ⟨b, off, none⟩) n c), Free.kc (.int .i64 ((k : Nat) : Int)), Free.kc (.pointer (some ⟨b, off + k * 4, none⟩)), Free.kc (.agg #[.int .i64 s.fr, .int .i64 s.to, .int .i64 s.lk, sv s.rt]), Free.kc (.bool true), Free.kc (.bool false), Free.kc (.bool false), Free.kc (.int .i64 ((k : Nat) : Int)), Free.kc (.bool false), Free.kc (.bool false), Free.kc (undef), Free.kc (undef), Free.kc (undef), Free.kc (undef), Free.kc (undef), Free.kc (undef), Free.kc (undef), Free.kc (undef), Free.kc (undef), Free.kc (undef), Free.kc (undef), Free.kc (undef), Free.kc (undef), Free.kc (undef), Free.kc (.bool false), Free.kc (.bool false)] (by kernel_rfl) (by kernel_rfl) (by decide) (Below.refl _ _).drew (fun w w' h g => bt h g) ?_ ?_
          · refine Free.forall_succ (Free.forall_succ (Free.forall_succ (Free.forall_succ (Free.forall_succ (Free.forall_succ (Free.forall_succ (Free.forall_succ (Free.forall_succ (Free.forall_succ (Free.forall_succ (Free.forall_succ (Free.forall_succ (Free.forall_succ (Free.forall_succ (Free.forall_succ (Free.forall_succ (Free.forall_succ (Free.forall_succ (Free.forall_succ (Free.forall_succ (Free.forall_succ (Free.forall_succ (Free.forall_succ (Free.forall_succ (Free.forall_succ (Free.forall_zero) ?_) ?_) ?_) ?_) ?_) ?_) ?_) ?_) ?_) ?_) ?_) ?_) ?_) ?_) ?_) ?_) ?_) ?_) ?_) ?_) ?_) ?_) ?_) ?_) ?_) ?_
            · exact Free.ob_plain _ rfl rfl fun vals wq hC hd => (by exact Free.d_move rfl (by kernel_rfl) rfl)
            · exact Free.ob_plain _ rfl rfl fun vals wq hC hd => (by exact Free.d_move rfl (by kernel_rfl) rfl)
            · exact Free.ob_plain _ rfl rfl fun vals wq hC hd => (by exact Free.d_indexAddr rfl (Eq.trans (b := vals 0) (by kernel_rfl) (hd 0 (by kernel_rfl))) (Eq.trans (b := vals 1) (by kernel_rfl) (hd 1 (by kernel_rfl))) (run_idxK (k := 4) 35 Tryd.underlying35 (by kernel_rfl) b off n c k _ (by first | rfl | omega) (by omega)) rfl)
            · exact Free.ob_plain _ rfl rfl fun vals wq hC hd => (by exact Free.d_load rfl (Eq.trans (b := vals 2) (by kernel_rfl) (hd 2 (by kernel_rfl))) (by have s0 := HCS.out wq (bt HBL.out hC) 0 _ rfl; have s1 := HCS.out wq (bt HBL.out hC) 1 _ rfl; have s2 := HCS.out wq (bt HBL.out hC) 2 _ rfl; have s3 := HCS.out wq (bt HBL.out hC) 3 _ rfl; rw [Nat.add_zero] at s0; go_simp) rfl)
            · exact Free.ob_plain _ rfl rfl fun vals wq hC hd => (by exact Free.d_call Tryd.func142 (by kernel_rfl) (by kernel_rfl) rfl rfl (Free.arg1 (Eq.trans (b := vals 3) (by kernel_rfl) (hd 3 (by kernel_rfl)))) ((CG.out wq).mono fun e w2 h => ⟨_, h.1, congrArg Value.bool HOK.out, h.2⟩))
            · exact Free.ob_plain _ rfl rfl fun vals wq hC hd => (by exact Free.d_un rfl (Eq.trans (b := vals 4) (by kernel_rfl) (hd 4 (by kernel_rfl))) (by go_simp) rfl)
            · exact Free.ob_plain _ rfl rfl fun vals wq hC hd => (by exact Free.d_move rfl (Eq.trans (b := vals 5) (by kernel_rfl) (hd 5 (by kernel_rfl))) rfl)
            · exact Free.ob_guard _ rfl 6 23 false rfl rfl fun vals wq hC hd => ⟨Eq.trans (b := vals 6) (by kernel_rfl) (hd 6 (by kernel_rfl)), (by exact Free.d_move rfl (by kernel_rfl) rfl)⟩
            · exact Free.ob_guard _ rfl 6 23 false rfl rfl fun vals wq hC hd => ⟨Eq.trans (b := vals 6) (by kernel_rfl) (hd 6 (by kernel_rfl)), (by exact Free.d_bin rfl (Eq.trans (b := vals 7) (by kernel_rfl) (hd 7 (by kernel_rfl))) (show _ = (Value.int .i64 0) from rfl) (by go_simp) (by have hz := HK0.out; first | (go_simp; done) | (go_simp; omega)) rfl)⟩
            · exact Free.ob_guard _ rfl 6 23 false rfl rfl fun vals wq hC hd => ⟨Eq.trans (b := vals 6) (by kernel_rfl) (hd 6 (by kernel_rfl)), (by exact Free.d_move rfl (Eq.trans (b := vals 8) (by kernel_rfl) (hd 8 (by kernel_rfl))) rfl)⟩
            · exact Free.ob_skip _ rfl 9 26 true rfl rfl fun vals wq hC hd => ⟨.inl (Eq.trans (b := vals 9) (by kernel_rfl) (hd 9 (by kernel_rfl))), rfl⟩
            · exact Free.ob_skip _ rfl 9 26 true rfl rfl fun vals wq hC hd => ⟨.inl (Eq.trans (b := vals 9) (by kernel_rfl) (hd 9 (by kernel_rfl))), rfl⟩
            · exact Free.ob_skip _ rfl 9 26 true rfl rfl fun vals wq hC hd => ⟨.inl (Eq.trans (b := vals 9) (by kernel_rfl) (hd 9 (by kernel_rfl))), rfl⟩
            · exact Free.ob_skip _ rfl 9 26 true rfl rfl fun vals wq hC hd => ⟨.inl (Eq.trans (b := vals 9) (by kernel_rfl) (hd 9 (by kernel_rfl))), rfl⟩
            · exact Free.ob_skip _ rfl 9 26 true rfl rfl fun vals wq hC hd => ⟨.inl (Eq.trans (b := vals 9) (by kernel_rfl) (hd 9 (by kernel_rfl))), rfl⟩
            · exact Free.ob_skip _ rfl 9 26 true rfl rfl fun vals wq hC hd => ⟨.inl (Eq.trans (b := vals 9) (by kernel_rfl) (hd 9 (by kernel_rfl))), rfl⟩
            · exact Free.ob_skip _ rfl 9 26 true rfl rfl fun vals wq hC hd => ⟨.inl (Eq.trans (b := vals 9) (by kernel_rfl) (hd 9 (by kernel_rfl))), rfl⟩
            · exact Free.ob_skip _ rfl 9 26 true rfl rfl fun vals wq hC hd => ⟨.inl (Eq.trans (b := vals 9) (by kernel_rfl) (hd 9 (by kernel_rfl))), rfl⟩
            · exact Free.ob_skip _ rfl 9 26 true rfl rfl fun vals wq hC hd => ⟨.inl (Eq.trans (b := vals 9) (by kernel_rfl) (hd 9 (by kernel_rfl))), rfl⟩
            · exact Free.ob_skip _ rfl 9 26 true rfl rfl fun vals wq hC hd => ⟨.inl (Eq.trans (b := vals 9) (by kernel_rfl) (hd 9 (by kernel_rfl))), rfl⟩
            · exact Free.ob_skip _ rfl 9 26 true rfl rfl fun vals wq hC hd => ⟨.inl (Eq.trans (b := vals 9) (by kernel_rfl) (hd 9 (by kernel_rfl))), rfl⟩
            · exact Free.ob_skip _ rfl 9 26 true rfl rfl fun vals wq hC hd => ⟨.inl (Eq.trans (b := vals 9) (by kernel_rfl) (hd 9 (by kernel_rfl))), rfl⟩
            · exact Free.ob_skip _ rfl 9 26 true rfl rfl fun vals wq hC hd => ⟨.inl (Eq.trans (b := vals 9) (by kernel_rfl) (hd 9 (by kernel_rfl))), rfl⟩
            · exact Free.ob_skip _ rfl 9 26 true rfl rfl fun vals wq hC hd => ⟨.inl (Eq.trans (b := vals 9) (by kernel_rfl) (hd 9 (by kernel_rfl))), rfl⟩
            · exact Free.ob_guard _ rfl 6 23 false rfl rfl fun vals wq hC hd => ⟨Eq.trans (b := vals 6) (by kernel_rfl) (hd 6 (by kernel_rfl)), (by exact Free.d_pick rfl (Eq.trans (b := vals 9) (by kernel_rfl) (hd 9 (by kernel_rfl))) rfl rfl)⟩
            · exact Free.ob_plain _ rfl rfl fun vals wq hC hd => (by exact Free.d_pick rfl (Eq.trans (b := vals 6) (by kernel_rfl) (hd 6 (by kernel_rfl))) (Eq.trans (b := vals 24) (by kernel_rfl) (hd 24 (by kernel_rfl))) rfl)
          · intro vals wq hC hd
            have e0 : vals 0 = (.slice (some ⟨b, off, none⟩) n c) := hd 0 (by decide)
            have e1 : vals 1 = (.int .i64 ((k : Nat) : Int)) := hd 1 (by decide)
            have e2 : vals 2 = (.pointer (some ⟨b, off + k * 4, none⟩)) := hd 2 (by decide)
            have e3 : vals 3 = (.agg #[.int .i64 s.fr, .int .i64 s.to, .int .i64 s.lk, sv s.rt]) := hd 3 (by decide)
            have e4 : vals 4 = (.bool true) := hd 4 (by decide)
            have e5 : vals 5 = (.bool false) := hd 5 (by decide)
            have e6 : vals 6 = (.bool false) := hd 6 (by decide)
            have e7 : vals 7 = (.int .i64 ((k : Nat) : Int)) := hd 7 (by decide)
            have e8 : vals 8 = (.bool false) := hd 8 (by decide)
            have e9 : vals 9 = (.bool false) := hd 9 (by decide)
            have e10 : vals 10 = (undef) := hd 10 (by decide)
            have e11 : vals 11 = (undef) := hd 11 (by decide)
            have e12 : vals 12 = (undef) := hd 12 (by decide)
            have e13 : vals 13 = (undef) := hd 13 (by decide)
            have e14 : vals 14 = (undef) := hd 14 (by decide)
            have e15 : vals 15 = (undef) := hd 15 (by decide)
            have e16 : vals 16 = (undef) := hd 16 (by decide)
            have e17 : vals 17 = (undef) := hd 17 (by decide)
            have e18 : vals 18 = (undef) := hd 18 (by decide)
            have e19 : vals 19 = (undef) := hd 19 (by decide)
            have e20 : vals 20 = (undef) := hd 20 (by decide)
            have e21 : vals 21 = (undef) := hd 21 (by decide)
            have e22 : vals 22 = (undef) := hd 22 (by decide)
            have e23 : vals 23 = (undef) := hd 23 (by decide)
            have e24 : vals 24 = (.bool false) := hd 24 (by decide)
            have e25 : vals 25 = (.bool false) := hd 25 (by decide)
            simp only [Free.frameOf, List.range, List.range.loop, List.foldl, Free.dstOf, List.getElem?_toArray, List.getElem?_cons_zero, List.getElem?_cons_succ, Option.bind_some, Act.put, List.setIfInBounds_toArray, List.set_cons_zero, List.set_cons_succ, e0, e1, e2, e3, e4, e5, e6, e7, e8, e9, e10, e11, e12, e13, e14, e15, e16, e17, e18, e19, e20, e21, e22, e23, e24, e25]
            refine wpList_nil ?_
            clear hd e0 e1 e2 e3 e4 e5 e6 e7 e8 e9 e10 e11 e12 e13 e14 e15 e16 e17 e18 e19 e20 e21 e22 e23 e24 e25
            have HBW := Lib.hid (bt HBL.out hC)
            clear hC
            go_wp2
            go_roundw
            case rel => exact ⟨k + 1, by go_num, by omega, Lib.hid ⟨HN.out, HBW.out⟩⟩
            case measure => simp [intOf]; omega
        · obtain ⟨t, rfl⟩ : ∃ t, k = t + 1 := ⟨k - 1, by omega⟩
          clear hk0
          obtain ⟨p, hp, _, hcp⟩ := HAT.out t (by omega)
          have HCP := Lib.hid hcp
          have HBG := Lib.hid (Hd.beg_succ hp)
          clear hp hcp
          by_cases hfr : s.fr = p.to
          · have HN := Lib.hid (show Hd.rowFrom l (Hd.beg l 0) size = Hd.rowFrom (l.drop (t + 1 + 1)) (Hd.beg l (t + 1 + 1)) size by rw [HEQ.out, HRW.out, hok, Hd.beg_succ HS.out, HBG.out, hfr]; simp)
            have HNE := Lib.hid hfr
            clear hok hfr
            go_wp2_with fail
            refine Free.wp_free_l 26 (fun W => Below wr.heap.size wr W) [Free.kc (.slice (some ⟨b, off, none⟩) n c), Free.kc (.int .i64 ((t + 1 : Nat) : Int)), Free.kc (.pointer (some ⟨b, off + (t + 1) * 4, none⟩)), Free.kc (.agg #[.int .i64 s.fr, .int .i64 s.to, .int .i64 s.lk, sv s.rt]), Free.kc (.bool true), Free.kc (.bool false), Free.kc (.bool false), Free.kc (.int .i64 ((t + 1 : Nat) : Int)), Free.kc (.bool true), Free.kc (.bool true), Free.kc (.slice (some ⟨b, off, none⟩) n c), Free.kc (.int .i64 ((t + 1 : Nat) : Int)), Free.kc (.pointer (some ⟨b, off + (t + 1) * 4, none⟩)), Free.kc (.pointer (some ⟨b, off + (t + 1) * 4, none⟩)), Free.kc (.pointer (some ⟨b, off + (t + 1) * 4, none⟩)), Free.kc (.int .i64 s.fr), Free.kc (.slice (some ⟨b, off, none⟩) n c), Free.kc (.int .i64 ((t + 1 : Nat) : Int)), Free.kc (.int .i64 (t : Int)), Free.kc (.pointer (some ⟨b, off + t * 4, none⟩)), Free.kc (.pointer (some ⟨b, off + t * 4, none⟩)), Free.kc (.pointer (some ⟨b, off + t * 4 + 1, none⟩)), Free.kc (.int .i64 p.to), Free.kc (.bool false), Free.kc (.bool false), Free.kc (.bool false)] (by kernel_rfl) (by kernel_rfl) (by decide) (Below.refl _ _).drew (fun w w' h g => bt h g) ?_ ?_
            · refine Free.forall_succ (Free.forall_succ (Free.forall_succ (Free.forall_succ (Free.forall_succ (Free.forall_succ (Free.forall_succ (Free.forall_succ (Free.forall_succ (Free.forall_succ (Free.forall_succ (Free.forall_succ (Free.forall_succ (Free.forall_succ (Free.forall_succ (Free.forall_succ (Free.forall_succ (Free.forall_succ (Free.forall_succ (Free.forall_succ (Free.forall_succ (Free.forall_succ (Free.forall_succ (Free.forall_succ (Free.forall_succ (Free.forall_succ (Free.forall_zero) ?_) ?_) ?_) ?_) ?_) ?_) ?_) ?_) ?_) ?_) ?_) ?_) ?_) ?_) ?_) ?_) ?_) ?_) ?_) ?_) ?_) ?_) ?_) ?_) ?_) ?_
              · exact Free.ob_plain _ rfl rfl fun vals wq hC hd => (by exact Free.d_move rfl (by kernel_rfl) rfl)
              · exact Free.ob_plain _ rfl rfl fun vals wq hC hd => (by exact Free.d_move rfl (by kernel_rfl) rfl)
              · exact Free.ob_plain _ rfl rfl fun vals wq hC hd => (by exact Free.d_indexAddr rfl (Eq.trans (b := vals 0) (by kernel_rfl) (hd 0 (by kernel_rfl))) (Eq.trans (b := vals 1) (by kernel_rfl) (hd 1 (by kernel_rfl))) (run_idxK (k := 4) 35 Tryd.underlying35 (by kernel_rfl) b off n c (t + 1) _ (by first | rfl | omega) (by omega)) rfl)
              · exact Free.ob_plain _ rfl rfl fun vals wq hC hd => (by exact Free.d_load rfl (Eq.trans (b := vals 2) (by kernel_rfl) (hd 2 (by kernel_rfl))) (by have s0 := HCS.out wq (bt HBL.out hC) 0 _ rfl; have s1 := HCS.out wq (bt HBL.out hC) 1 _ rfl; have s2 := HCS.out wq (bt HBL.out hC) 2 _ rfl; have s3 := HCS.out wq (bt HBL.out hC) 3 _ rfl; rw [Nat.add_zero] at s0; go_simp) rfl)
              · exact Free.ob_plain _ rfl rfl fun vals wq hC hd => (by exact Free.d_call Tryd.func142 (by kernel_rfl) (by kernel_rfl) rfl rfl (Free.arg1 (Eq.trans (b := vals 3) (by kernel_rfl) (hd 3 (by kernel_rfl)))) ((CG.out wq).mono fun e w2 h => ⟨_, h.1, congrArg Value.bool HOK.out, h.2⟩))
              · exact Free.ob_plain _ rfl rfl fun vals wq hC hd => (by exact Free.d_un rfl (Eq.trans (b := vals 4) (by kernel_rfl) (hd 4 (by kernel_rfl))) (by go_simp) rfl)
              · exact Free.ob_plain _ rfl rfl fun vals wq hC hd => (by exact Free.d_move rfl (Eq.trans (b := vals 5) (by kernel_rfl) (hd 5 (by kernel_rfl))) rfl)
              · exact Free.ob_guard _ rfl 6 23 false rfl rfl fun vals wq hC hd => ⟨Eq.trans (b := vals 6) (by kernel_rfl) (hd 6 (by kernel_rfl)), (by exact Free.d_move rfl (by kernel_rfl) rfl)⟩
              · exact Free.ob_guard _ rfl 6 23 false rfl rfl fun vals wq hC hd => ⟨Eq.trans (b := vals 6) (by kernel_rfl) (hd 6 (by kernel_rfl)), (by exact Free.d_bin rfl (Eq.trans (b := vals 7) (by kernel_rfl) (hd 7 (by kernel_rfl))) (show _ = (.int .i64 0 : Value) from rfl) (by go_simp) (by first | (go_simp; done) | (go_simp; rw [IntWalk.u32_in _ (by omega)]) | (go_simp; rw [IntWalk.i64_in _ (by omega)]) | (go_simp; rw [IntWalk.u8_in _ (by omega)]) | (go_simp; rw [IntKind.wrap_u32]; exact nv_add _ _)) rfl)⟩
              · exact Free.ob_guard _ rfl 6 23 false rfl rfl fun vals wq hC hd => ⟨Eq.trans (b := vals 6) (by kernel_rfl) (hd 6 (by kernel_rfl)), (by exact Free.d_move rfl (Eq.trans (b := vals 8) (by kernel_rfl) (hd 8 (by kernel_rfl))) rfl)⟩
              · exact Free.ob_guard _ rfl 9 26 true rfl rfl fun vals wq hC hd => ⟨Eq.trans (b := vals 9) (by kernel_rfl) (hd 9 (by kernel_rfl)), (by exact Free.d_move rfl (by kernel_rfl) rfl)⟩
              · exact Free.ob_guard _ rfl 9 26 true rfl rfl fun vals wq hC hd => ⟨Eq.trans (b := vals 9) (by kernel_rfl) (hd 9 (by kernel_rfl)), (by exact Free.d_move rfl (by kernel_rfl) rfl)⟩
              · exact Free.ob_guard _ rfl 9 26 true rfl rfl fun vals wq hC hd => ⟨Eq.trans (b := vals 9) (by kernel_rfl) (hd 9 (by kernel_rfl)), (by exact Free.d_indexAddr rfl (Eq.trans (b := vals 10) (by kernel_rfl) (hd 10 (by kernel_rfl))) (Eq.trans (b := vals 11) (by kernel_rfl) (hd 11 (by kernel_rfl))) (run_idxK (k := 4) 35 Tryd.underlying35 (by kernel_rfl) b off n c (t + 1) _ (by first | rfl | omega) (by omega)) rfl)⟩
              · exact Free.ob_guard _ rfl 9 26 true rfl rfl fun vals wq hC hd => ⟨Eq.trans (b := vals 9) (by kernel_rfl) (hd 9 (by kernel_rfl)), (by exact d_field (cx := .pointer (some ⟨b, off + (t + 1) * 4, none⟩)) rfl (Eq.trans (b := vals 12) (by kernel_rfl) (hd 12 (by kernel_rfl))) (by go_simp) rfl)⟩
              · exact Free.ob_guard _ rfl 9 26 true rfl rfl fun vals wq hC hd => ⟨Eq.trans (b := vals 9) (by kernel_rfl) (hd 9 (by kernel_rfl)), (by exact d_field (cx := .pointer (some ⟨b, off + (t + 1) * 4, none⟩)) rfl (Eq.trans (b := vals 13) (by kernel_rfl) (hd 13 (by kernel_rfl))) (by go_simp) rfl)⟩
              · exact Free.ob_guard _ rfl 9 26 true rfl rfl fun vals wq hC hd => ⟨Eq.trans (b := vals 9) (by kernel_rfl) (hd 9 (by kernel_rfl)), (by exact Free.d_load rfl (Eq.trans (b := vals 14) (by kernel_rfl) (hd 14 (by kernel_rfl))) (by have s0 := HCS.out wq (bt HBL.out hC) 0 _ rfl; rw [Nat.add_zero] at s0; go_simp) rfl)⟩
              · exact Free.ob_guard _ rfl 9 26 true rfl rfl fun vals wq hC hd => ⟨Eq.trans (b := vals 9) (by kernel_rfl) (hd 9 (by kernel_rfl)), (by exact Free.d_move rfl (by kernel_rfl) rfl)⟩
              · exact Free.ob_guard _ rfl 9 26 true rfl rfl fun vals wq hC hd => ⟨Eq.trans (b := vals 9) (by kernel_rfl) (hd 9 (by kernel_rfl)), (by exact Free.d_move rfl (by kernel_rfl) rfl)⟩
              · exact Free.ob_guard _ rfl 9 26 true rfl rfl fun vals wq hC hd => ⟨Eq.trans (b := vals 9) (by kernel_rfl) (hd 9 (by kernel_rfl)), (by exact Free.d_bin rfl (Eq.trans (b := vals 17) (by kernel_rfl) (hd 17 (by kernel_rfl))) (show _ = (Value.int .i64 1) from rfl) (by go_simp) (by first | (go_simp; done) | (go_simp; omega) | (go_simp; rw [IntWalk.i64_in _ (by omega)]; done) | (go_simp; rw [IntWalk.i64_in _ (by omega)]; omega)) rfl)⟩
              · exact Free.ob_guard _ rfl 9 26 true rfl rfl fun vals wq hC hd => ⟨Eq.trans (b := vals 9) (by kernel_rfl) (hd 9 (by kernel_rfl)), (by exact Free.d_indexAddr rfl (Eq.trans (b := vals 16) (by kernel_rfl) (hd 16 (by kernel_rfl))) (Eq.trans (b := vals 18) (by kernel_rfl) (hd 18 (by kernel_rfl))) (run_idxK (k := 4) 35 Tryd.underlying35 (by kernel_rfl) b off n c t _ (by first | rfl | omega) (by omega)) rfl)⟩
              · exact Free.ob_guard _ rfl 9 26 true rfl rfl fun vals wq hC hd => ⟨Eq.trans (b := vals 9) (by kernel_rfl) (hd 9 (by kernel_rfl)), (by exact d_field (cx := .pointer (some ⟨b, off + t * 4, none⟩)) rfl (Eq.trans (b := vals 19) (by kernel_rfl) (hd 19 (by kernel_rfl))) (by go_simp) rfl)⟩
              · exact Free.ob_guard _ rfl 9 26 true rfl rfl fun vals wq hC hd => ⟨Eq.trans (b := vals 9) (by kernel_rfl) (hd 9 (by kernel_rfl)), (by exact d_field (cx := .pointer (some ⟨b, off + t * 4, none⟩)) rfl (Eq.trans (b := vals 20) (by kernel_rfl) (hd 20 (by kernel_rfl))) (by go_simp) rfl)⟩
              · exact Free.ob_guard _ rfl 9 26 true rfl rfl fun vals wq hC hd => ⟨Eq.trans (b := vals 9) (by kernel_rfl) (hd 9 (by kernel_rfl)), (by exact Free.d_load rfl (Eq.trans (b := vals 21) (by kernel_rfl) (hd 21 (by kernel_rfl))) (by have s1 := HCP.out wq (bt HBL.out hC) 1 _ rfl; go_simp) rfl)⟩
              · exact Free.ob_guard _ rfl 9 26 true rfl rfl fun vals wq hC hd => ⟨Eq.trans (b := vals 9) (by kernel_rfl) (hd 9 (by kernel_rfl)), (by exact Free.d_bin rfl (Eq.trans (b := vals 15) (by kernel_rfl) (hd 15 (by kernel_rfl))) (Eq.trans (b := vals 22) (by kernel_rfl) (hd 22 (by kernel_rfl))) (by go_simp) (by have hne := HNE.out; first | (go_simp; done) | (go_simp; exact hne)) rfl)⟩
              · exact Free.ob_guard _ rfl 6 23 false rfl rfl fun vals wq hC hd => ⟨Eq.trans (b := vals 6) (by kernel_rfl) (hd 6 (by kernel_rfl)), (by exact Free.d_pick rfl (Eq.trans (b := vals 9) (by kernel_rfl) (hd 9 (by kernel_rfl))) (Eq.trans (b := vals 23) (by kernel_rfl) (hd 23 (by kernel_rfl))) rfl)⟩
              · exact Free.ob_plain _ rfl rfl fun vals wq hC hd => (by exact Free.d_pick rfl (Eq.trans (b := vals 6) (by kernel_rfl) (hd 6 (by kernel_rfl))) (Eq.trans (b := vals 24) (by kernel_rfl) (hd 24 (by kernel_rfl))) rfl)
            · intro vals wq hC hd
              have e0 : vals 0 = (.slice (some ⟨b, off, none⟩) n c) := hd 0 (by decide)
              have e1 : vals 1 = (.int .i64 ((t + 1 : Nat) : Int)) := hd 1 (by decide)
              have e2 : vals 2 = (.pointer (some ⟨b, off + (t + 1) * 4, none⟩)) := hd 2 (by decide)
              have e3 : vals 3 = (.agg #[.int .i64 s.fr, .int .i64 s.to, .int .i64 s.lk, sv s.rt]) := hd 3 (by decide)
              have e4 : vals 4 = (.bool true) := hd 4 (by decide)
              have e5 : vals 5 = (.bool false) := hd 5 (by decide)
              have e6 : vals 6 = (.bool false) := hd 6 (by decide)
              have e7 : vals 7 = (.int .i64 ((t + 1 : Nat) : Int)) := hd 7 (by decide)
              have e8 : vals 8 = (.bool true) := hd 8 (by decide)
              have e9 : vals 9 = (.bool true) := hd 9 (by decide)
              have e10 : vals 10 = (.slice (some ⟨b, off, none⟩) n c) := hd 10 (by decide)
              have e11 : vals 11 = (.int .i64 ((t + 1 : Nat) : Int)) := hd 11 (by decide)
              have e12 : vals 12 = (.pointer (some ⟨b, off + (t + 1) * 4, none⟩)) := hd 12 (by decide)
              have e13 : vals 13 = (.pointer (some ⟨b, off + (t + 1) * 4, none⟩)) := hd 13 (by decide)
              have e14 : vals 14 = (.pointer (some ⟨b, off + (t + 1) * 4, none⟩)) := hd 14 (by decide)
              have e15 : vals 15 = (.int .i64 s.fr) := hd 15 (by decide)
              have e16 : vals 16 = (.slice (some ⟨b, off, none⟩) n c) := hd 16 (by decide)
              have e17 : vals 17 = (.int .i64 ((t + 1 : Nat) : Int)) := hd 17 (by decide)
              have e18 : vals 18 = (.int .i64 (t : Int)) := hd 18 (by decide)
              have e19 : vals 19 = (.pointer (some ⟨b, off + t * 4, none⟩)) := hd 19 (by decide)
              have e20 : vals 20 = (.pointer (some ⟨b, off + t * 4, none⟩)) := hd 20 (by decide)
              have e21 : vals 21 = (.pointer (some ⟨b, off + t * 4 + 1, none⟩)) := hd 21 (by decide)
              have e22 : vals 22 = (.int .i64 p.to) := hd 22 (by decide)
              have e23 : vals 23 = (.bool false) := hd 23 (by decide)
              have e24 : vals 24 = (.bool false) := hd 24 (by decide)
              have e25 : vals 25 = (.bool false) := hd 25 (by decide)
              simp only [Free.frameOf, List.range, List.range.loop, List.foldl, Free.dstOf, List.getElem?_toArray, List.getElem?_cons_zero, List.getElem?_cons_succ, Option.bind_some, Act.put, List.setIfInBounds_toArray, List.set_cons_zero, List.set_cons_succ, e0, e1, e2, e3, e4, e5, e6, e7, e8, e9, e10, e11, e12, e13, e14, e15, e16, e17, e18, e19, e20, e21, e22, e23, e24, e25]
              refine wpList_nil ?_
              clear hd e0 e1 e2 e3 e4 e5 e6 e7 e8 e9 e10 e11 e12 e13 e14 e15 e16 e17 e18 e19 e20 e21 e22 e23 e24 e25
              have HBW := Lib.hid (bt HBL.out hC)
              clear hC
              go_wp2
              go_roundw
              case rel => exact ⟨t + 1 + 1, by go_num, by omega, Lib.hid ⟨HN.out, HBW.out⟩⟩
              case measure => simp [intOf]; omega
          · have HF := Lib.hid (show Hd.row l size = false by rw [HR0.out, HEQ.out, HRW.out, HBG.out, decide_eq_false hfr]; simp)
            have HNE := Lib.hid hfr
            clear hok hfr
            go_wp2_with fail
            refine Free.wp_free_l 26 (fun W => Below wr.heap.size wr W) [Free.kc (.slice (some ⟨b, off, none⟩) n c), Free.kc (.int .i64 ((t + 1 : Nat) : Int)), Free.kc (.pointer (some ⟨b, off + (t + 1) * 4, none⟩)), Free.kc (.agg #[.int .i64 s.fr, .int .i64 s.to, .int .i64 s.lk, sv s.rt]), Free.kc (.bool true), Free.kc (.bool false), Free.kc (.bool false), Free.kc (.int .i64 ((t + 1 : Nat) : Int)), Free.kc (.bool true), Free.kc (.bool true), Free.kc (.slice (some ⟨b, off, none⟩) n c), Free.kc (.int .i64 ((t + 1 : Nat) : Int)), Free.kc (.pointer (some ⟨b, off + (t + 1) * 4, none⟩)), Free.kc (.pointer (some ⟨b, off + (t + 1) * 4, none⟩)), Free.kc (.pointer (some ⟨b, off + (t + 1) * 4, none⟩)), Free.kc (.int .i64 s.fr), Free.kc (.slice (some ⟨b, off, none⟩) n c), Free.kc (.int .i64 ((t + 1 : Nat) : Int)), Free.kc (.int .i64 (t : Int)), Free.kc (.pointer (some ⟨b, off + t * 4, none⟩)), Free.kc (.pointer (some ⟨b, off + t * 4, none⟩)), Free.kc (.pointer (some ⟨b, off + t * 4 + 1, none⟩)), Free.kc (.int .i64 p.to), Free.kc (.bool true), Free.kc (.bool true), Free.kc (.bool true)] (by kernel_rfl) (by kernel_rfl) (by decide) (Below.refl _ _).drew (fun w w' h g => bt h g) ?_ ?_
            · refine Free.forall_succ (Free.forall_succ (Free.forall_succ (Free.forall_succ (Free.forall_succ (Free.forall_succ (Free.forall_succ (Free.forall_succ (Free.forall_succ (Free.forall_succ (Free.forall_succ (Free.forall_succ (Free.forall_succ (Free.forall_succ (Free.forall_succ (Free.forall_succ (Free.forall_succ (Free.forall_succ (Free.forall_succ (Free.forall_succ (Free.forall_succ (Free.forall_succ (Free.forall_succ (Free.forall_succ (Free.forall_succ (Free.forall_succ (Free.forall_zero) ?_) ?_) ?_) ?_) ?_) ?_) ?_) ?_) ?_) ?_) ?_) ?_) ?_) ?_) ?_) ?_) ?_) ?_) ?_) ?_) ?_) ?_) ?_) ?_) ?_) ?_
              · exact Free.ob_plain _ rfl rfl fun vals wq hC hd => (by exact Free.d_move rfl (by kernel_rfl) rfl)
              · exact Free.ob_plain _ rfl rfl fun vals wq hC hd => (by exact Free.d_move rfl (by kernel_rfl) rfl)
              · exact Free.ob_plain _ rfl rfl fun vals wq hC hd => (by exact Free.d_indexAddr rfl (Eq.trans (b := vals 0) (by kernel_rfl) (hd 0 (by kernel_rfl))) (Eq.trans (b := vals 1) (by kernel_rfl) (hd 1 (by kernel_rfl))) (run_idxK (k := 4) 35 Tryd.underlying35 (by kernel_rfl) b off n c (t + 1) _ (by first | rfl | omega) (by omega)) rfl)
              · exact Free.ob_plain _ rfl rfl fun vals wq hC hd => (by exact Free.d_load rfl (Eq.trans (b := vals 2) (by kernel_rfl) (hd 2 (by kernel_rfl))) (by have s0 := HCS.out wq (bt HBL.out hC) 0 _ rfl; have s1 := HCS.out wq (bt HBL.out hC) 1 _ rfl; have s2 := HCS.out wq (bt HBL.out hC) 2 _ rfl; have s3 := HCS.out wq (bt HBL.out hC) 3 _ rfl; rw [Nat.add_zero] at s0; go_simp) rfl)
              · exact Free.ob_plain _ rfl rfl fun vals wq hC hd => (by exact Free.d_call Tryd.func142 (by kernel_rfl) (by kernel_rfl) rfl rfl (Free.arg1 (Eq.trans (b := vals 3) (by kernel_rfl) (hd 3 (by kernel_rfl)))) ((CG.out wq).mono fun e w2 h => ⟨_, h.1, congrArg Value.bool HOK.out, h.2⟩))
              · exact Free.ob_plain _ rfl rfl fun vals wq hC hd => (by exact Free.d_un rfl (Eq.trans (b := vals 4) (by kernel_rfl) (hd 4 (by kernel_rfl))) (by go_simp) rfl)
              · exact Free.ob_plain _ rfl rfl fun vals wq hC hd => (by exact Free.d_move rfl (Eq.trans (b := vals 5) (by kernel_rfl) (hd 5 (by kernel_rfl))) rfl)
              · exact Free.ob_guard _ rfl 6 23 false rfl rfl fun vals wq hC hd => ⟨Eq.trans (b := vals 6) (by kernel_rfl) (hd 6 (by kernel_rfl)), (by exact Free.d_move rfl (by kernel_rfl) rfl)⟩
              · exact Free.ob_guard _ rfl 6 23 false rfl rfl fun vals wq hC hd => ⟨Eq.trans (b := vals 6) (by kernel_rfl) (hd 6 (by kernel_rfl)), (by exact Free.d_bin rfl (Eq.trans (b := vals 7) (by kernel_rfl) (hd 7 (by kernel_rfl))) (show _ = (.int .i64 0 : Value) from rfl) (by go_simp) (by first | (go_simp; done) | (go_simp; rw [IntWalk.u32_in _ (by omega)]) | (go_simp; rw [IntWalk.i64_in _ (by omega)]) | (go_simp; rw [IntWalk.u8_in _ (by omega)]) | (go_simp; rw [IntKind.wrap_u32]; exact nv_add _ _)) rfl)⟩
              · exact Free.ob_guard _ rfl 6 23 false rfl rfl fun vals wq hC hd => ⟨Eq.trans (b := vals 6) (by kernel_rfl) (hd 6 (by kernel_rfl)), (by exact Free.d_move rfl (Eq.trans (b := vals 8) (by kernel_rfl) (hd 8 (by kernel_rfl))) rfl)⟩
              · exact Free.ob_guard _ rfl 9 26 true rfl rfl fun vals wq hC hd => ⟨Eq.trans (b := vals 9) (by kernel_rfl) (hd 9 (by kernel_rfl)), (by exact Free.d_move rfl (by kernel_rfl) rfl)⟩
              · exact Free.ob_guard _ rfl 9 26 true rfl rfl fun vals wq hC hd => ⟨Eq.trans (b := vals 9) (by kernel_rfl) (hd 9 (by kernel_rfl)), (by exact Free.d_move rfl (by kernel_rfl) rfl)⟩
              · exact Free.ob_guard _ rfl 9 26 true rfl rfl fun vals wq hC hd => ⟨Eq.trans (b := vals 9) (by kernel_rfl) (hd 9 (by kernel_rfl)), (by exact Free.d_indexAddr rfl (Eq.trans (b := vals 10) (by kernel_rfl) (hd 10 (by kernel_rfl))) (Eq.trans (b := vals 11) (by kernel_rfl) (hd 11 (by kernel_rfl))) (run_idxK (k := 4) 35 Tryd.underlying35 (by kernel_rfl) b off n c (t + 1) _ (by first | rfl | omega) (by omega)) rfl)⟩
              · exact Free.ob_guard _ rfl 9 26 true rfl rfl fun vals wq hC hd => ⟨Eq.trans (b := vals 9) (by kernel_rfl) (hd 9 (by kernel_rfl)), (by exact d_field (cx := .pointer (some ⟨b, off + (t + 1) * 4, none⟩)) rfl (Eq.trans (b := vals 12) (by kernel_rfl) (hd 12 (by kernel_rfl))) (by go_simp) rfl)⟩
              · exact Free.ob_guard _ rfl 9 26 true rfl rfl fun vals wq hC hd => ⟨Eq.trans (b := vals 9) (by kernel_rfl) (hd 9 (by kernel_rfl)), (by exact d_field (cx := .pointer (some ⟨b, off + (t + 1) * 4, none⟩)) rfl (Eq.trans (b := vals 13) (by kernel_rfl) (hd 13 (by kernel_rfl))) (by go_simp) rfl)⟩
              · exact Free.ob_guard _ rfl 9 26 true rfl rfl fun vals wq hC hd => ⟨Eq.trans (b := vals 9) (by kernel_rfl) (hd 9 (by kernel_rfl)), (by exact Free.d_load rfl (Eq.trans (b := vals 14) (by kernel_rfl) (hd 14 (by kernel_rfl))) (by have s0 := HCS.out wq (bt HBL.out hC) 0 _ rfl; rw [Nat.add_zero] at s0; go_simp) rfl)⟩
              · exact Free.ob_guard _ rfl 9 26 true rfl rfl fun vals wq hC hd => ⟨Eq.trans (b := vals 9) (by kernel_rfl) (hd 9 (by kernel_rfl)), (by exact Free.d_move rfl (by kernel_rfl) rfl)⟩
              · exact Free.ob_guard _ rfl 9 26 true rfl rfl fun vals wq hC hd => ⟨Eq.trans (b := vals 9) (by kernel_rfl) (hd 9 (by kernel_rfl)), (by exact Free.d_move rfl (by kernel_rfl) rfl)⟩
              · exact Free.ob_guard _ rfl 9 26 true rfl rfl fun vals wq hC hd => ⟨Eq.trans (b := vals 9) (by kernel_rfl) (hd 9 (by kernel_rfl)), (by exact Free.d_bin rfl (Eq.trans (b := vals 17) (by kernel_rfl) (hd 17 (by kernel_rfl))) (show _ = (Value.int .i64 1) from rfl) (by go_simp) (by first | (go_simp; done) | (go_simp; omega) | (go_simp; rw [IntWalk.i64_in _ (by omega)]; done) | (go_simp; rw [IntWalk.i64_in _ (by omega)]; omega)) rfl)⟩
              · exact Free.ob_guard _ rfl 9 26 true rfl rfl fun vals wq hC hd => ⟨Eq.trans (b := vals 9) (by kernel_rfl) (hd 9 (by kernel_rfl)), (by exact Free.d_indexAddr rfl (Eq.trans (b := vals 16) (by kernel_rfl) (hd 16 (by kernel_rfl))) (Eq.trans (b := vals 18) (by kernel_rfl) (hd 18 (by kernel_rfl))) (run_idxK (k := 4) 35 Tryd.underlying35 (by kernel_rfl) b off n c t _ (by first | rfl | omega) (by omega)) rfl)⟩
              · exact Free.ob_guard _ rfl 9 26 true rfl rfl fun vals wq hC hd => ⟨Eq.trans (b := vals 9) (by kernel_rfl) (hd 9 (by kernel_rfl)), (by exact d_field (cx := .pointer (some ⟨b, off + t * 4, none⟩)) rfl (Eq.trans (b := vals 19) (by kernel_rfl) (hd 19 (by kernel_rfl))) (by go_simp) rfl)⟩
              · exact Free.ob_guard _ rfl 9 26 true rfl rfl fun vals wq hC hd => ⟨Eq.trans (b := vals 9) (by kernel_rfl) (hd 9 (by kernel_rfl)), (by exact d_field (cx := .pointer (some ⟨b, off + t * 4, none⟩)) rfl (Eq.trans (b := vals 20) (by kernel_rfl) (hd 20 (by kernel_rfl))) (by go_simp) rfl)⟩
              · exact Free.ob_guard _ rfl 9 26 true rfl rfl fun vals wq hC hd => ⟨Eq.trans (b := vals 9) (by kernel_rfl) (hd 9 (by kernel_rfl)), (by exact Free.d_load rfl (Eq.trans (b := vals 21) (by kernel_rfl) (hd 21 (by kernel_rfl))) (by have s1 := HCP.out wq (bt HBL.out hC) 1 _ rfl; go_simp) rfl)⟩
              · exact Free.ob_guard _ rfl 9 26 true rfl rfl fun vals wq hC hd => ⟨Eq.trans (b := vals 9) (by kernel_rfl) (hd 9 (by kernel_rfl)), (by exact Free.d_bin rfl (Eq.trans (b := vals 15) (by kernel_rfl) (hd 15 (by kernel_rfl))) (Eq.trans (b := vals 22) (by kernel_rfl) (hd 22 (by kernel_rfl))) (by go_simp) (by have hne := HNE.out; first | (go_simp; done) | (go_simp; exact hne)) rfl)⟩
              · exact Free.ob_guard _ rfl 6 23 false rfl rfl fun vals wq hC hd => ⟨Eq.trans (b := vals 6) (by kernel_rfl) (hd 6 (by kernel_rfl)), (by exact Free.d_pick rfl (Eq.trans (b := vals 9) (by kernel_rfl) (hd 9 (by kernel_rfl))) (Eq.trans (b := vals 23) (by kernel_rfl) (hd 23 (by kernel_rfl))) rfl)⟩
              · exact Free.ob_plain _ rfl rfl fun vals wq hC hd => (by exact Free.d_pick rfl (Eq.trans (b := vals 6) (by kernel_rfl) (hd 6 (by kernel_rfl))) (Eq.trans (b := vals 24) (by kernel_rfl) (hd 24 (by kernel_rfl))) rfl)
            · intro vals wq hC hd
              have e0 : vals 0 = (.slice (some ⟨b, off, none⟩) n c) := hd 0 (by decide)
              have e1 : vals 1 = (.int .i64 ((t + 1 : Nat) : Int)) := hd 1 (by decide)
              have e2 : vals 2 = (.pointer (some ⟨b, off + (t + 1) * 4, none⟩)) := hd 2 (by decide)
              have e3 : vals 3 = (.agg #[.int .i64 s.fr, .int .i64 s.to, .int .i64 s.lk, sv s.rt]) := hd 3 (by decide)
              have e4 : vals 4 = (.bool true) := hd 4 (by decide)
              have e5 : vals 5 = (.bool false) := hd 5 (by decide)
              have e6 : vals 6 = (.bool false) := hd 6 (by decide)
              have e7 : vals 7 = (.int .i64 ((t + 1 : Nat) : Int)) := hd 7 (by decide)
              have e8 : vals 8 = (.bool true) := hd 8 (by decide)
              have e9 : vals 9 = (.bool true) := hd 9 (by decide)
              have e10 : vals 10 = (.slice (some ⟨b, off, none⟩) n c) := hd 10 (by decide)
              have e11 : vals 11 = (.int .i64 ((t + 1 : Nat) : Int)) := hd 11 (by decide)
              have e12 : vals 12 = (.pointer (some ⟨b, off + (t + 1) * 4, none⟩)) := hd 12 (by decide)
              have e13 : vals 13 = (.pointer (some ⟨b, off + (t + 1) * 4, none⟩)) := hd 13 (by decide)
              have e14 : vals 14 = (.pointer (some ⟨b, off + (t + 1) * 4, none⟩)) := hd 14 (by decide)
              have e15 : vals 15 = (.int .i64 s.fr) := hd 15 (by decide)
              have e16 : vals 16 = (.slice (some ⟨b, off, none⟩) n c) := hd 16 (by decide)
              have e17 : vals 17 = (.int .i64 ((t + 1 : Nat) : Int)) := hd 17 (by decide)
              have e18 : vals 18 = (.int .i64 (t : Int)) := hd 18 (by decide)
              have e19 : vals 19 = (.pointer (some ⟨b, off + t * 4, none⟩)) := hd 19 (by decide)
              have e20 : vals 20 = (.pointer (some ⟨b, off + t * 4, none⟩)) := hd 20 (by decide)
              have e21 : vals 21 = (.pointer (some ⟨b, off + t * 4 + 1, none⟩)) := hd 21 (by decide)
              have e22 : vals 22 = (.int .i64 p.to) := hd 22 (by decide)
              have e23 : vals 23 = (.bool true) := hd 23 (by decide)
              have e24 : vals 24 = (.bool true) := hd 24 (by decide)
              have e25 : vals 25 = (.bool true) := hd 25 (by decide)
              simp only [Free.frameOf, List.range, List.range.loop, List.foldl, Free.dstOf, List.getElem?_toArray, List.getElem?_cons_zero, List.getElem?_cons_succ, Option.bind_some, Act.put, List.setIfInBounds_toArray, List.set_cons_zero, List.set_cons_succ, e0, e1, e2, e3, e4, e5, e6, e7, e8, e9, e10, e11, e12, e13, e14, e15, e16, e17, e18, e19, e20, e21, e22, e23, e24, e25]
              refine wpList_nil ?_
              clear hd e0 e1 e2 e3 e4 e5 e6 e7 e8 e9 e10 e11 e12 e13 e14 e15 e16 e17 e18 e19 e20 e21 e22 e23 e24 e25
              have HBW := Lib.hid (bt HBL.out hC)
              clear hC
              go_wp2
              go_ret
              exact ⟨by rw [HF.out]; rfl, HBW.out⟩
    · obtain rfl : k = n := by omega
      obtain ⟨t, rfl⟩ : ∃ t, k = t + 1 := ⟨k - 1, by omega⟩
      obtain ⟨p, hp, _, hcp⟩ := HAT.out t (by omega)
      have p1 := hcp wr HBL.out 1 _ rfl
      have q0 := HCF.out wr HBL.out 0 _ rfl
      rw [Nat.zero_mul, Nat.add_zero] at q0
      have HX := Lib.hid (show Hd.row l size = (decide (t + 1 ≤ 64) && (decide (f0.fr = 0) && decide (p.to = size))) by
        rw [HR0.out, HEQ.out, Hd.beg_succ hp, List.drop_of_length_le (by rw [HLN.out]; exact Nat.le_refl _), HLN.out]; rfl)
      clear hp hcp
      by_cases g1 : t + 1 ≤ 64
      · by_cases g2 : f0.fr = 0
        · by_cases g3 : p.to = size
          · have HE := Lib.hid (show Hd.row l size = true by rw [HX.out]; simp [g1, g2, g3])
            go_wp2
            go_ret
            exact ⟨by rw [HE.out]; rfl, HBL.out⟩
          · have HE := Lib.hid (show Hd.row l size = false by rw [HX.out]; simp [g1, g2, g3])
            have gb : (p.to == size) = false := beq_eq_false_iff_ne.2 g3
            go_wp2
            go_ret
            exact ⟨by rw [HE.out]; rfl, HBL.out⟩
        · have HE := Lib.hid (show Hd.row l size = false by rw [HX.out]; simp [g1, g2])
          have gb : (f0.fr == 0) = false := beq_eq_false_iff_ne.2 g2
          go_wp2
          go_ret
          exact ⟨by rw [HE.out]; rfl, HBL.out⟩
      · have HE := Lib.hid (show Hd.row l size = false by rw [HX.out]; simp [g1])
        go_wp2
        go_ret
        exact ⟨by rw [HE.out]; rfl, HBL.out⟩
set_option maxHeartbeats 4000000 in
theorem rhright_any (A : Option Addr) (n c : Nat) (h : Hd.H) (w : World) (hs : Sq sgc 4 w A n c h.segs) (hl : ∀ s ∈ h.segs, s.rt.length ≤ 1000) (hlog : h.log.length ≤ 1000) : Calls Tryd.prog 45 #[hdv A n c h] w (RetB h.ok w) := by
  have HROW := Lib.hid (row_new w #[.int .i64 h.size, sv h.log, .slice A n c] 37)
  have HB0 := Lib.hid (show Below w.heap.size w (w.alloc (.cells #[.int .i64 h.size, sv h.log, .slice A n c] 37)) from (Below.refl _ w).alloc (Nat.le_refl _) _)
  have x0 := HROW.out.cellQ 0 _ rfl
  have x1 := HROW.out.cellQ 1 _ rfl
  have x2 := HROW.out.cellQ 2 _ rfl
  have CW := Lib.hid (fun W (hb : Below w.heap.size w W) => rrow_any A n c h.segs h.size W (hs.keep hb) hl)
  have hc := hs.cap
  have hm := hs.max
  rw [maxLen_eq] at hm
  have hlen := hs.len
  clear hs
  unfold hdv
  by_cases h1 : 0 ≤ h.size
  · by_cases h2 : h.size ≤ 1000
    · by_cases h3 : h.log.length = 32
      · have HE := Lib.hid (show h.ok = Hd.row h.segs h.size by unfold Hd.H.ok; simp [h1, h2, h3])
        have zl := strLen h.log
        rw [h3] at zl
        go_enter Tryd.func45, Tryd.ntmps45
        go_wp2_with fail
        (with_reducible refine (CW.out _ HB0.out).mono ?_)
        rintro e w1 ⟨rfl, hb1⟩
        have HB1 := Lib.hid (bt HB0.out hb1)
        clear hb1
        go_wp2
        go_ret
        exact ⟨by rw [HE.out]; rfl, HB1.out⟩
      · have HE := Lib.hid (show h.ok = false by unfold Hd.H.ok; simp [h1, h2, h3])
        have zl := strLen h.log
        have gl : ((h.log.length : Int) == 32) = false := beq_eq_false_iff_ne.2 (by omega)
        go_enter Tryd.func45, Tryd.ntmps45
        go_wp2
        go_ret
        exact ⟨by rw [HE.out]; rfl, HB0.out⟩
    · have HE := Lib.hid (show h.ok = false by unfold Hd.H.ok; simp [h1, h2])
      go_enter Tryd.func45, Tryd.ntmps45
      go_wp2
      go_ret
      exact ⟨by rw [HE.out]; rfl, HB0.out⟩
  · have HE := Lib.hid (show h.ok = false by unfold Hd.H.ok; simp [h1])
    go_enter Tryd.func45, Tryd.ntmps45
    go_wp2
    go_ret
    exact ⟨by rw [HE.out]; rfl, HB0.out⟩
end Go.Proofs.YtfgpaepdlmnhaaaDoor
