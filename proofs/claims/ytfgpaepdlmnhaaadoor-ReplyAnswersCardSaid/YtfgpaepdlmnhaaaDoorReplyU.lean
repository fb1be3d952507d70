/- Proofs that are alike. No statement of the seat is proved here. -/
import Derived.Test.YtfgpaepdlmnhaaaDoorReplyT
import Derived.BigQuiet
namespace Go.Proofs.YtfgpaepdlmnhaaaDoor
set_option maxRecDepth 100000
set_option linter.unusedVariables false
open Go.RowKit
set_option maxRecDepth 100000 in
set_option maxHeartbeats 16000000 in
theorem same11_eq (Ap : Option Addr) (np cp : Nat) (Ad : Option Addr) (nd cd : Nat) (Bp : Option Addr) (kp : Nat) (Bd : Option Addr) (kd : Nat) (p : Hd.Pf) (w : World) (hp : Ss w Ap np cp p.path) (hd : Bs w Ad nd cd p.docs) (hp2 : Ss w Bp np kp p.path) (hd2 : Bs w Bd nd kd p.docs) : Calls Tryd.prog 58 #[.agg #[.int .i64 p.at_, sv p.link.term, sv p.link.next, sv p.link.posts, .slice Ap np cp, .slice Ad nd cd], .agg #[.int .i64 p.at_, sv p.link.term, sv p.link.next, sv p.link.posts, .slice Bp np kp, .slice Bd nd kd]] w (RetB true w) := by
  have hlen := hp.len
  have hcap := hp.cap
  have hmx := hp.max
  have hcap2 := hp2.cap
  have hmx2 := hp2.max
  rw [maxLen_eq] at hmx hmx2
  have h1 := (row_new w #[.int .i64 p.at_, sv p.link.term, sv p.link.next, sv p.link.posts, .slice Ap np cp, .slice Ad nd cd] 108).alloc (.cells #[.int .i64 p.at_, sv p.link.term, sv p.link.next, sv p.link.posts, .slice Bp np kp, .slice Bd nd kd] 108)
  have h2 := row_new (w.alloc (.cells #[.int .i64 p.at_, sv p.link.term, sv p.link.next, sv p.link.posts, .slice Ap np cp, .slice Ad nd cd] 108)) #[.int .i64 p.at_, sv p.link.term, sv p.link.next, sv p.link.posts, .slice Bp np kp, .slice Bd nd kd] 108
  rw [size_alloc] at h2
  have hb := ((Below.refl w.heap.size w).alloc (Nat.le_refl _) (.cells #[.int .i64 p.at_, sv p.link.term, sv p.link.next, sv p.link.posts, .slice Ap np cp, .slice Ad nd cd] 108)).alloc (by rw [size_alloc]; omega) (.cells #[.int .i64 p.at_, sv p.link.term, sv p.link.next, sv p.link.posts, .slice Bp np kp, .slice Bd nd kd] 108)
  obtain ⟨w1, hw1⟩ : ∃ W, (w.alloc (.cells #[.int .i64 p.at_, sv p.link.term, sv p.link.next, sv p.link.posts, .slice Ap np cp, .slice Ad nd cd] 108)).alloc (.cells #[.int .i64 p.at_, sv p.link.term, sv p.link.next, sv p.link.posts, .slice Bp np kp, .slice Bd nd kd] 108) = W := ⟨_, rfl⟩
  rw [hw1] at h1 h2 hb
  have HW1 := Lib.hid hw1
  have HB := Lib.hid hb
  have HS := Lib.hid (hp.keep hb)
  have HT := Lib.hid (hp2.keep hb)
  have hd1 := hd.keep hb
  have hd3 := hd2.keep hb
  have x0 := h1.cellQ 0 _ rfl
  have x1 := h1.cellQ 1 _ rfl
  have x2 := h1.cellQ 2 _ rfl
  have x3 := h1.cellQ 3 _ rfl
  have x4 := h1.cellQ 4 _ rfl
  have x5 := h1.cellQ 5 _ rfl
  have y0 := h2.cellQ 0 _ rfl
  have y1 := h2.cellQ 1 _ rfl
  have y2 := h2.cellQ 2 _ rfl
  have y3 := h2.cellQ 3 _ rfl
  have y4 := h2.cellQ 4 _ rfl
  have y5 := h2.cellQ 5 _ rfl
  have HX := Lib.hid (show ∀ W, Below w1.heap.size w1 W → W.cell? ⟨w.heap.size, 4, none⟩ = some (.slice Ap np cp) from fun W hW => (h1.belowS hW (Nat.le_refl _)).cellQ 4 _ rfl)
  have HY := Lib.hid (show ∀ W, Below w1.heap.size w1 W → W.cell? ⟨w.heap.size + 1, 4, none⟩ = some (.slice Bp np kp) from fun W hW => (h2.belowS hW (Nat.le_refl _)).cellQ 4 _ rfl)
  have hc0 := run_str (P := Tryd.prog) (w := w1) 30 9 5 Tryd.underlying30 Tryd.underlying5 Tryd.underlying9 Ad nd cd _ p.docs hd1.rd hd1.len
  have hc1 := run_str (P := Tryd.prog) (w := w1) 30 9 5 Tryd.underlying30 Tryd.underlying5 Tryd.underlying9 Bd nd kd _ p.docs hd3.rd hd3.len
  clear hp hp2 hd hd2 hd1 hd3 h1 h2 hb hw1
  go_enter Tryd.func58, Tryd.ntmps58
  go_upto_region 1 with fail
  rw [HW1.out]
  go_wp2
  clear hc0 hc1 x0 x1 x2 x3 x4 x5 y0 y1 y2 y3 y4 y5
  go_loopw [5] (fun vi wr => ∃ (j : Nat), vi = .int .i64 (j : Int) ∧ j ≤ np ∧ Below w1.heap.size w1 wr) (fun vi _ => np - (intOf vi).toNat)
  case atStart => exact ⟨0, rfl, by omega, Below.refl _ _⟩
  case round =>
    obtain ⟨j, rfl, hj, hbw⟩ := hrel
    have HBW := Lib.hid hbw
    have x2' := HX.out wr hbw
    have y2' := HY.out wr hbw
    by_cases hlt : j < np
    · obtain ⟨b, off, rfl, hbk, hcs, d, hd⟩ := (HS.out.keep hbw).at hlt
      obtain ⟨b2, off2, rfl, hbk2, hcs2, d2, hd2⟩ := (HT.out.keep hbw).at hlt
      obtain rfl : d = d2 := by rw [hd] at hd2; injection hd2
      have s0 := hcs j d hd
      have t0 := hcs2 j d hd
      clear hcs hcs2 hd hd2 hbw
      go_wp2_with fail
      go_quiet (fail)
      go_wp2
      go_roundw
      case rel => exact ⟨j + 1, by go_num, by omega, HBW.out.trans (bel_drewN _ _ _)⟩
      case measure => simp [intOf]; omega
    · obtain rfl : j = np := by omega
      clear hbw
      go_wp2
      go_ret
      exact ⟨rfl, bt HB.out HBW.out⟩
end Go.Proofs.YtfgpaepdlmnhaaaDoor
