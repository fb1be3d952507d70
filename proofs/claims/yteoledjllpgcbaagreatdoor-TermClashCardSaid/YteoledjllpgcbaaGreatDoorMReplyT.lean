/- A proof as the document's, whether it may be, and its bytes. No statement of the seat is proved here. -/
import Derived.Test.YteoledjllpgcbaaGreatDoorMReplyE
namespace Go.Proofs.YteoledjllpgcbaaGreatDoor
set_option maxRecDepth 100000
set_option maxHeartbeats 64000000
set_option linter.unusedVariables false
open Go.RowKit
theorem asProof_any (Ap : Option Addr) (np cp : Nat) (Ad : Option Addr) (nd cd : Nat) (p : Hd.Pf) (w : World) : Calls Tryz.prog 13 #[.agg #[.int .i64 p.at_, sv p.link.term, sv p.link.next, sv p.link.posts, .slice Ap np cp, .slice Ad nd cd]] w (RetV (.agg #[.int .i64 p.at_, sv p.link.term, sv p.link.next, sv p.link.posts, .slice Ap np cp, .slice Ad nd cd]) w) := by
 have h1 := row_new w #[.int .i64 p.at_, sv p.link.term, sv p.link.next, sv p.link.posts, .slice Ap np cp, .slice Ad nd cd] 30
 have h2 := row_new (w.alloc (.cells #[.int .i64 p.at_, sv p.link.term, sv p.link.next, sv p.link.posts, .slice Ap np cp, .slice Ad nd cd] 30)) #[.int .i64 0, .string { data := #[] }, .string { data := #[] }, .string { data := #[] }, .slice none 0 0, .slice none 0 0] 38
 rw [size_alloc] at h2
 have hb := ((Below.refl w.heap.size w).alloc (Nat.le_refl _) (.cells #[.int .i64 p.at_, sv p.link.term, sv p.link.next, sv p.link.posts, .slice Ap np cp, .slice Ad nd cd] 30)).alloc (by rw [size_alloc]; omega) (.cells #[.int .i64 0, .string { data := #[] }, .string { data := #[] }, .string { data := #[] }, .slice none 0 0, .slice none 0 0] 38)
 have h1 := h1.alloc (.cells #[.int .i64 0, .string { data := #[] }, .string { data := #[] }, .string { data := #[] }, .slice none 0 0, .slice none 0 0] 38)
 obtain ⟨w1, hw1⟩ : ∃ W, (w.alloc (.cells #[.int .i64 p.at_, sv p.link.term, sv p.link.next, sv p.link.posts, .slice Ap np cp, .slice Ad nd cd] 30)).alloc (.cells #[.int .i64 0, .string { data := #[] }, .string { data := #[] }, .string { data := #[] }, .slice none 0 0, .slice none 0 0] 38) = W := ⟨_, rfl⟩
 rw [hw1] at h1 h2 hb
 have HW1 := Lib.hid hw1
 have HB := Lib.hid hb
 have HR := Lib.hid h2
 clear hw1 hb
 go_enter Tryz.func13, Tryz.ntmps13
 go_upto_region 1 with fail
 rw [HW1.out]
 have x0 := h1.cellQ 0 _ rfl
 have x1 := h1.cellQ 1 _ rfl
 have x2 := h1.cellQ 2 _ rfl
 have x3 := h1.cellQ 3 _ rfl
 have x4 := h1.cellQ 4 _ rfl
 have x5 := h1.cellQ 5 _ rfl
 have z0 := h2.cellQ 0 _ rfl
 have y0 := h2.frozen 0
 have z1 := h2.cellQ 1 _ rfl
 have y1 := h2.frozen 1
 have z2 := h2.cellQ 2 _ rfl
 have y2 := h2.frozen 2
 have z3 := h2.cellQ 3 _ rfl
 have y3 := h2.frozen 3
 have z4 := h2.cellQ 4 _ rfl
 have y4 := h2.frozen 4
 have z5 := h2.cellQ 5 _ rfl
 have y5 := h2.frozen 5
 clear h1 h2
 go_wp2
 generalize hwf : World.setCell (World.setCell (World.setCell (World.setCell (World.setCell (World.setCell w1 _ _) _ _) _ _) _ _) _ _) _ _ = wf
 have hsf : setFrom (w.heap.size + 1) w1 0 [.int .i64 p.at_, sv p.link.term, sv p.link.next, sv p.link.posts, .slice Ap np cp, .slice Ad nd cd] = wf := by rw [← hwf]; rfl
 have hrow := HR.out.all [.int .i64 p.at_, sv p.link.term, sv p.link.next, sv p.link.posts, .slice Ap np cp, .slice Ad nd cd] rfl
 rw [hsf] at hrow
 have r0 := hrow.cellQ 0 _ rfl
 have r1 := hrow.cellQ 1 _ rfl
 have r2 := hrow.cellQ 2 _ rfl
 have r3 := hrow.cellQ 3 _ rfl
 have r4 := hrow.cellQ 4 _ rfl
 have r5 := hrow.cellQ 5 _ rfl
 refine bodyPost_ret (v := .agg #[.int .i64 p.at_, sv p.link.term, sv p.link.next, sv p.link.posts, .slice Ap np cp, .slice Ad nd cd]) (by simp [results, Tryz.results13, go_sem, r0, r1, r2, r3, r4, r5]) rfl ?_
 exact ⟨rfl, by rw [← hsf]; exact below_setFrom (by omega) _ 0 HB.out⟩
end Go.Proofs.YteoledjllpgcbaaGreatDoor
