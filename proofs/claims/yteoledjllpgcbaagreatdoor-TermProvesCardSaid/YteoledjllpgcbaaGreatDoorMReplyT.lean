/- MReplyT: several texts of this claim in one file. No statement of the seat is proved here. -/
import Derived.Test.YteoledjllpgcbaaGreatDoorMReplyE
import Derived.BigQuiet
namespace Go.Proofs.YteoledjllpgcbaaGreatDoor
set_option maxRecDepth 100000
set_option linter.unusedVariables false
open Go.RowKit
set_option maxRecDepth 100000 in
set_option maxHeartbeats 8000000 in
theorem asProof_any (Ap : Option Addr) (np cp : Nat) (Ad : Option Addr) (nd cd : Nat) (p : Hd.Pf) (w : World) : Calls Tryz.prog 13 #[.agg #[.int .i64 p.at_, sv p.link.term, sv p.link.next, sv p.link.posts, .slice Ap np cp, .slice Ad nd cd]] w (RetV (.agg #[.int .i64 p.at_, sv p.link.term, sv p.link.next, sv p.link.posts, .slice Ap np cp, .slice Ad nd cd]) w) := by
  have h1 := row_new w #[.int .i64 p.at_, sv p.link.term, sv p.link.next, sv p.link.posts, .slice Ap np cp, .slice Ad nd cd] 30
  have h2 := row_new (w.alloc (.cells #[.int .i64 p.at_, sv p.link.term, sv p.link.next, sv p.link.posts, .slice Ap np cp, .slice Ad nd cd] 30)) #[.int .i64 0, .string { data := #[] }, .string { data := #[] }, .string { data := #[] }, .slice none 0 0, .slice none 0 0] 38
  rw [size_alloc] at h2
  have hb := ((Below.refl w.heap.size w).alloc (Nat.le_refl _) (.cells #[.int .i64 p.at_, sv p.link.term, sv p.link.next, sv p.link.posts, .slice Ap np cp, .slice Ad nd cd] 30)).alloc (by rw [size_alloc]; omega) (.cells #[.int .i64 0, .string { data := #[] }, .string { data := #[] }, .string { data := #[] }, .slice none 0 0, .slice none 0 0] 38)
  have h1 := h1.alloc (.cells #[.int .i64 0, .string { data := #[] }, .string { data := #[] }, .string { data := #[] }, .slice none 0 0, .slice none 0 0] 38)
  obtain ⟨w1, hw1⟩ : ∃ W, (w.alloc (.cells #[.int .i64 p.at_, sv p.link.term, sv p.link.next, sv p.link.posts, .slice Ap np cp, .slice Ad nd cd] 30)).alloc (.cells #[.int .i64 0, .string { data := #[] }, .string { data := #[] }, .string { data := #[] }, .slice none 0 0, .slice none 0 0] 38) = W := ⟨_, rfl⟩
  rw [hw1] at h1 h2 hb
  have HW1 := Lib.hid hw1
  have HB := Lib.hid hb
  have HR := Lib.hid h2
  clear hw1 hb
  go_enter Tryz.func13, Tryz.ntmps13
  go_upto_region 1 with fail
  rw [HW1.out]
  have x0 := h1.cellQ 0 _ rfl
  have x1 := h1.cellQ 1 _ rfl
  have x2 := h1.cellQ 2 _ rfl
  have x3 := h1.cellQ 3 _ rfl
  have x4 := h1.cellQ 4 _ rfl
  have x5 := h1.cellQ 5 _ rfl
  have z0 := h2.cellQ 0 _ rfl
  have y0 := h2.frozen 0
  have z1 := h2.cellQ 1 _ rfl
  have y1 := h2.frozen 1
  have z2 := h2.cellQ 2 _ rfl
  have y2 := h2.frozen 2
  have z3 := h2.cellQ 3 _ rfl
  have y3 := h2.frozen 3
  have z4 := h2.cellQ 4 _ rfl
  have y4 := h2.frozen 4
  have z5 := h2.cellQ 5 _ rfl
  have y5 := h2.frozen 5
  clear h1 h2
  go_wp2
  generalize hwf : World.setCell (World.setCell (World.setCell (World.setCell (World.setCell (World.setCell w1 _ _) _ _) _ _) _ _) _ _) _ _ = wf
  have hsf : setFrom (w.heap.size + 1) w1 0 [.int .i64 p.at_, sv p.link.term, sv p.link.next, sv p.link.posts, .slice Ap np cp, .slice Ad nd cd] = wf := by rw [← hwf]; rfl
  have hrow := HR.out.all [.int .i64 p.at_, sv p.link.term, sv p.link.next, sv p.link.posts, .slice Ap np cp, .slice Ad nd cd] rfl
  rw [hsf] at hrow
  have r0 := hrow.cellQ 0 _ rfl
  have r1 := hrow.cellQ 1 _ rfl
  have r2 := hrow.cellQ 2 _ rfl
  have r3 := hrow.cellQ 3 _ rfl
  have r4 := hrow.cellQ 4 _ rfl
  have r5 := hrow.cellQ 5 _ rfl
  refine bodyPost_ret (v := .agg #[.int .i64 p.at_, sv p.link.term, sv p.link.next, sv p.link.posts, .slice Ap np cp, .slice Ad nd cd]) (by simp [results, Tryz.results13, go_sem, r0, r1, r2, r3, r4, r5]) rfl ?_
  exact ⟨rfl, by rw [← hsf]; exact below_setFrom (by omega) _ 0 HB.out⟩
end Go.Proofs.YteoledjllpgcbaaGreatDoor

namespace Go.Proofs.YteoledjllpgcbaaGreatDoor
set_option maxRecDepth 100000
set_option linter.unusedVariables false
open Go.RowKit
set_option maxRecDepth 100000 in
set_option maxHeartbeats 16000000 in
theorem same11_eq (Ap : Option Addr) (np cp : Nat) (Ad : Option Addr) (nd cd : Nat) (Bp : Option Addr) (kp : Nat) (Bd : Option Addr) (kd : Nat) (p : Hd.Pf) (w : World) (hp : Ss w Ap np cp p.path) (hd : Bs w Ad nd cd p.docs) (hp2 : Ss w Bp np kp p.path) (hd2 : Bs w Bd nd kd p.docs) : Calls Tryz.prog 12 #[.agg #[.int .i64 p.at_, sv p.link.term, sv p.link.next, sv p.link.posts, .slice Ap np cp, .slice Ad nd cd], .agg #[.int .i64 p.at_, sv p.link.term, sv p.link.next, sv p.link.posts, .slice Bp np kp, .slice Bd nd kd]] w (RetB true w) := by
  have hlen := hp.len
  have hcap := hp.cap
  have hmx := hp.max
  have hcap2 := hp2.cap
  have hmx2 := hp2.max
  rw [maxLen_eq] at hmx hmx2
  have h1 := (row_new w #[.int .i64 p.at_, sv p.link.term, sv p.link.next, sv p.link.posts, .slice Ap np cp, .slice Ad nd cd] 38).alloc (.cells #[.int .i64 p.at_, sv p.link.term, sv p.link.next, sv p.link.posts, .slice Bp np kp, .slice Bd nd kd] 38)
  have h2 := row_new (w.alloc (.cells #[.int .i64 p.at_, sv p.link.term, sv p.link.next, sv p.link.posts, .slice Ap np cp, .slice Ad nd cd] 38)) #[.int .i64 p.at_, sv p.link.term, sv p.link.next, sv p.link.posts, .slice Bp np kp, .slice Bd nd kd] 38
  rw [size_alloc] at h2
  have hb := ((Below.refl w.heap.size w).alloc (Nat.le_refl _) (.cells #[.int .i64 p.at_, sv p.link.term, sv p.link.next, sv p.link.posts, .slice Ap np cp, .slice Ad nd cd] 38)).alloc (by rw [size_alloc]; omega) (.cells #[.int .i64 p.at_, sv p.link.term, sv p.link.next, sv p.link.posts, .slice Bp np kp, .slice Bd nd kd] 38)
  obtain ⟨w1, hw1⟩ : ∃ W, (w.alloc (.cells #[.int .i64 p.at_, sv p.link.term, sv p.link.next, sv p.link.posts, .slice Ap np cp, .slice Ad nd cd] 38)).alloc (.cells #[.int .i64 p.at_, sv p.link.term, sv p.link.next, sv p.link.posts, .slice Bp np kp, .slice Bd nd kd] 38) = W := ⟨_, rfl⟩
  rw [hw1] at h1 h2 hb
  have HW1 := Lib.hid hw1
  have HB := Lib.hid hb
  have HS := Lib.hid (hp.keep hb)
  have HT := Lib.hid (hp2.keep hb)
  have hd1 := hd.keep hb
  have hd3 := hd2.keep hb
  have x0 := h1.cellQ 0 _ rfl
  have x1 := h1.cellQ 1 _ rfl
  have x2 := h1.cellQ 2 _ rfl
  have x3 := h1.cellQ 3 _ rfl
  have x4 := h1.cellQ 4 _ rfl
  have x5 := h1.cellQ 5 _ rfl
  have y0 := h2.cellQ 0 _ rfl
  have y1 := h2.cellQ 1 _ rfl
  have y2 := h2.cellQ 2 _ rfl
  have y3 := h2.cellQ 3 _ rfl
  have y4 := h2.cellQ 4 _ rfl
  have y5 := h2.cellQ 5 _ rfl
  have HX := Lib.hid (show ∀ W, Below w1.heap.size w1 W → W.cell? ⟨w.heap.size, 4, none⟩ = some (.slice Ap np cp) from fun W hW => (h1.belowS hW (Nat.le_refl _)).cellQ 4 _ rfl)
  have HY := Lib.hid (show ∀ W, Below w1.heap.size w1 W → W.cell? ⟨w.heap.size + 1, 4, none⟩ = some (.slice Bp np kp) from fun W hW => (h2.belowS hW (Nat.le_refl _)).cellQ 4 _ rfl)
  have hc0 := run_str (P := Tryz.prog) (w := w1) 28 9 5 Tryz.underlying28 Tryz.underlying5 Tryz.underlying9 Ad nd cd _ p.docs hd1.rd hd1.len
  have hc1 := run_str (P := Tryz.prog) (w := w1) 28 9 5 Tryz.underlying28 Tryz.underlying5 Tryz.underlying9 Bd nd kd _ p.docs hd3.rd hd3.len
  clear hp hp2 hd hd2 hd1 hd3 h1 h2 hb hw1
  go_enter Tryz.func12, Tryz.ntmps12
  go_upto_region 1 with fail
  rw [HW1.out]
  go_wp2
  clear hc0 hc1 x0 x1 x2 x3 x4 x5 y0 y1 y2 y3 y4 y5
  go_loopw [5] (fun vi wr => ∃ (j : Nat), vi = .int .i64 (j : Int) ∧ j ≤ np ∧ Below w1.heap.size w1 wr) (fun vi _ => np - (intOf vi).toNat)
  case atStart => exact ⟨0, rfl, by omega, Below.refl _ _⟩
  case round =>
    obtain ⟨j, rfl, hj, hbw⟩ := hrel
    have HBW := Lib.hid hbw
    have x2' := HX.out wr hbw
    have y2' := HY.out wr hbw
    by_cases hlt : j < np
    · obtain ⟨b, off, rfl, hbk, hcs, d, hd⟩ := (HS.out.keep hbw).at hlt
      obtain ⟨b2, off2, rfl, hbk2, hcs2, d2, hd2⟩ := (HT.out.keep hbw).at hlt
      obtain rfl : d = d2 := by rw [hd] at hd2; injection hd2
      have s0 := hcs j d hd
      have t0 := hcs2 j d hd
      clear hcs hcs2 hd hd2 hbw
      go_wp2_with fail
      go_quiet (fail)
      go_wp2
      go_roundw
      case rel => exact ⟨j + 1, by go_num, by omega, HBW.out.trans (bel_drewN _ _ _)⟩
      case measure => simp [intOf]; omega
    · obtain rfl : j = np := by omega
      clear hbw
      go_wp2
      go_ret
      exact ⟨rfl, bt HB.out HBW.out⟩
end Go.Proofs.YteoledjllpgcbaaGreatDoor
