/- MHeadC: several texts of this claim in one file. No statement of the seat is proved here. -/
import Derived.Test.YteoledjllpgcbaaGreatDoorMHeadB
import Derived.Test.YteoledjllpgcbaaGreatDoorCode5
namespace Go.Proofs.YteoledjllpgcbaaGreatDoor
set_option maxRecDepth 100000
set_option maxHeartbeats 64000000
set_option linter.unusedVariables false
open Go.RowKit
theorem readNum_bad (A : Option Addr) (n c at_ : Nat) (x : Int) (l : List UInt8) (w : World) (h : Bs w A n c l) (hn : n ≤ 1000000000) (hx : x ≠ 0) :
  Calls Tryz.prog 127 #[rv A n c (at_ : Int) x] w fun e w' => ∃ A' c', Own8 w' w.heap.size A' n c' l ∧ Below w.heap.size w w' ∧ e = .returned (.tuple #[rv A' n c' (at_ : Int) x, .int .i64 0]) := by
 have b1 : (x == 0) = false := beq_eq_false_iff_ne.2 hx
 go_enter Tryz.func127, Tryz.ntmps127
 go_wp2_with fail
 obtain ⟨W0, hW0⟩ : ∃ W, (w.alloc (.cells #[.slice A n c, .int .i64 (at_ : Int), .int .i64 x] 113)).alloc (.cells #[.slice none 0 0, .int .i64 0, .int .i64 0] 113) = W := ⟨_, rfl⟩
 have hs1 : (w.alloc (.cells #[.slice A n c, .int .i64 (at_ : Int), .int .i64 x] 113)).heap.size = w.heap.size + 1 := by unfold World.alloc; simp
 have hbox : Row W0 w.heap.size #[.slice A n c, .int .i64 (at_ : Int), .int .i64 x] 113 := by rw [← hW0]; exact (row_new w _ _).alloc _
 have hres : Row W0 (w.heap.size + 1) #[.slice none 0 0, .int .i64 0, .int .i64 0] 113 := by rw [← hW0, ← hs1]; exact row_new _ _ _
 have hb0 : Below w.heap.size w W0 := by rw [← hW0]; exact ((Below.refl _ w).alloc (Nat.le_refl _) _).alloc (by rw [hs1]; omega) _
 rw [hW0]
 (with_reducible refine (start_err A n c (at_ : Int) x l W0 (h.keep hb0) (by omega) hx).mono ?_)
 rintro e w1 ⟨A1, n1, c1, rfl, ho1, hb1⟩
 have hn1 : n1 = n := by have a := ho1.len; have b := h.len; omega
 subst hn1
 have hbox1 := hbox.belowS hb1 (Nat.le_refl _)
 have hres1 := hres.belowS hb1 (Nat.le_refl _)
 have HRES := Lib.hid hres1
 have HBX := Lib.hid hbox1
 have ho2 := ho1.base (show w.heap.size + 2 ≤ W0.heap.size from hres.lt)
 have HB1 := Lib.hid (bt hb0 hb1)
 have x0 := hbox1.cellQ 0 _ rfl
 have x1 := hbox1.cellQ 1 _ rfl
 have x2 := hbox1.cellQ 2 _ rfl
 have y0 := hbox1.frozen 0
 have y1 := hbox1.frozen 1
 have y2 := hbox1.frozen 2
 have v0 := hres1.cellQ 0 _ rfl
 have v1 := hres1.cellQ 1 _ rfl
 have v2 := hres1.cellQ 2 _ rfl
 have z0 := hres1.frozen 0
 have z1 := hres1.frozen 1
 have z2 := hres1.frozen 2
 have hc1 := ho2.cap
 have hm1' := ho2.max
 rw [maxLen_eq] at hm1'
 clear hW0 hs1 hbox hres hb0 hb1 hbox1 hres1 ho1
 clear hx
 go_wp2
 generalize hwf : World.setCell (World.setCell (World.setCell (World.setCell (World.setCell (World.setCell w1 _ _) _ _) _ _) _ _) _ _) _ _ = wf
 have hsf : setFrom (w.heap.size + 1) (setFrom w.heap.size w1 0 [.slice A1 n1 c1, .int .i64 (at_ : Int), .int .i64 x]) 0 [.slice A1 n1 c1, .int .i64 (at_ : Int), .int .i64 x] = wf := by rw [← hwf]; rfl
 have hrow := Row.all (HRES.out.far_setFrom (c := w.heap.size) (by omega) [.slice A1 n1 c1, .int .i64 (at_ : Int), .int .i64 x] 0) [.slice A1 n1 c1, .int .i64 (at_ : Int), .int .i64 x] rfl
 rw [hsf] at hrow
 have r0 := hrow.cellQ 0 _ rfl
 have r1 := hrow.cellQ 1 _ rfl
 have r2 := hrow.cellQ 2 _ rfl
 refine bodyPost_ret (v := .tuple #[.agg #[.slice A1 n1 c1, .int .i64 (at_ : Int), .int .i64 x], .int .i64 0]) (by simp [results, Tryz.results127, go_sem, r0, r1, r2]) rfl ?_
 have hown : Own8 wf w.heap.size A1 n1 c1 l := by rw [← hsf]; exact ⟨own_base (own_setFrom (own_setFrom ho2.own (by omega) [.slice A1 n1 c1, .int .i64 (at_ : Int), .int .i64 x] 0) (b := w.heap.size + 1) (by omega) _ 0) (by omega), ho2.len, ho2.cap, ho2.max⟩
 have hbel : Below w.heap.size w wf := by rw [← hsf]; exact below_setFrom (by omega) _ 0 (below_setFrom (Nat.le_refl _) [.slice A1 n1 c1, .int .i64 (at_ : Int), .int .i64 x] 0 HB1.out)
 exact ⟨A1, c1, hown, hbel, rfl⟩
theorem readText_bad (A : Option Addr) (n c at_ : Nat) (x : Int) (most : Int) (l : List UInt8) (w : World) (h : Bs w A n c l) (hn : n ≤ 1000000000) (hx : x ≠ 0) :
  Calls Tryz.prog 69 #[rv A n c (at_ : Int) x, .int .i64 most] w fun e w' => ∃ A' c', Own8 w' w.heap.size A' n c' l ∧ Below w.heap.size w w' ∧ e = .returned (.tuple #[rv A' n c' (at_ : Int) x, .string { data := #[] }]) := by
 have b1 : (x == 0) = false := beq_eq_false_iff_ne.2 hx
 go_enter Tryz.func69, Tryz.ntmps69
 go_wp2_with fail
 obtain ⟨W0, hW0⟩ : ∃ W, (w.alloc (.cells #[.slice A n c, .int .i64 (at_ : Int), .int .i64 x] 113)).alloc (.cells #[.slice none 0 0, .int .i64 0, .int .i64 0] 113) = W := ⟨_, rfl⟩
 have hs1 : (w.alloc (.cells #[.slice A n c, .int .i64 (at_ : Int), .int .i64 x] 113)).heap.size = w.heap.size + 1 := by unfold World.alloc; simp
 have hbox : Row W0 w.heap.size #[.slice A n c, .int .i64 (at_ : Int), .int .i64 x] 113 := by rw [← hW0]; exact (row_new w _ _).alloc _
 have hres : Row W0 (w.heap.size + 1) #[.slice none 0 0, .int .i64 0, .int .i64 0] 113 := by rw [← hW0, ← hs1]; exact row_new _ _ _
 have hb0 : Below w.heap.size w W0 := by rw [← hW0]; exact ((Below.refl _ w).alloc (Nat.le_refl _) _).alloc (by rw [hs1]; omega) _
 rw [hW0]
 (with_reducible refine (start_err A n c (at_ : Int) x l W0 (h.keep hb0) (by omega) hx).mono ?_)
 rintro e w1 ⟨A1, n1, c1, rfl, ho1, hb1⟩
 have hn1 : n1 = n := by have a := ho1.len; have b := h.len; omega
 subst hn1
 have hbox1 := hbox.belowS hb1 (Nat.le_refl _)
 have hres1 := hres.belowS hb1 (Nat.le_refl _)
 have HRES := Lib.hid hres1
 have HBX := Lib.hid hbox1
 have ho2 := ho1.base (show w.heap.size + 2 ≤ W0.heap.size from hres.lt)
 have HB1 := Lib.hid (bt hb0 hb1)
 have x0 := hbox1.cellQ 0 _ rfl
 have x1 := hbox1.cellQ 1 _ rfl
 have x2 := hbox1.cellQ 2 _ rfl
 have y0 := hbox1.frozen 0
 have y1 := hbox1.frozen 1
 have y2 := hbox1.frozen 2
 have v0 := hres1.cellQ 0 _ rfl
 have v1 := hres1.cellQ 1 _ rfl
 have v2 := hres1.cellQ 2 _ rfl
 have z0 := hres1.frozen 0
 have z1 := hres1.frozen 1
 have z2 := hres1.frozen 2
 have hc1 := ho2.cap
 have hm1' := ho2.max
 rw [maxLen_eq] at hm1'
 clear hW0 hs1 hbox hres hb0 hb1 hbox1 hres1 ho1
 clear hx
 go_wp2
 generalize hwf : World.setCell (World.setCell (World.setCell (World.setCell (World.setCell (World.setCell w1 _ _) _ _) _ _) _ _) _ _) _ _ = wf
 have hsf : setFrom (w.heap.size + 1) (setFrom w.heap.size w1 0 [.slice A1 n1 c1, .int .i64 (at_ : Int), .int .i64 x]) 0 [.slice A1 n1 c1, .int .i64 (at_ : Int), .int .i64 x] = wf := by rw [← hwf]; rfl
 have hrow := Row.all (HRES.out.far_setFrom (c := w.heap.size) (by omega) [.slice A1 n1 c1, .int .i64 (at_ : Int), .int .i64 x] 0) [.slice A1 n1 c1, .int .i64 (at_ : Int), .int .i64 x] rfl
 rw [hsf] at hrow
 have r0 := hrow.cellQ 0 _ rfl
 have r1 := hrow.cellQ 1 _ rfl
 have r2 := hrow.cellQ 2 _ rfl
 refine bodyPost_ret (v := .tuple #[.agg #[.slice A1 n1 c1, .int .i64 (at_ : Int), .int .i64 x], .string { data := #[] }]) (by simp [results, Tryz.results69, go_sem, r0, r1, r2]) rfl ?_
 have hown : Own8 wf w.heap.size A1 n1 c1 l := by rw [← hsf]; exact ⟨own_base (own_setFrom (own_setFrom ho2.own (by omega) [.slice A1 n1 c1, .int .i64 (at_ : Int), .int .i64 x] 0) (b := w.heap.size + 1) (by omega) _ 0) (by omega), ho2.len, ho2.cap, ho2.max⟩
 have hbel : Below w.heap.size w wf := by rw [← hsf]; exact below_setFrom (by omega) _ 0 (below_setFrom (Nat.le_refl _) [.slice A1 n1 c1, .int .i64 (at_ : Int), .int .i64 x] 0 HB1.out)
 exact ⟨A1, c1, hown, hbel, rfl⟩
theorem readDigest_bad (A : Option Addr) (n c at_ : Nat) (x : Int) (l : List UInt8) (w : World) (h : Bs w A n c l) (hn : n ≤ 1000000000) (hx : x ≠ 0) :
  Calls Tryz.prog 70 #[rv A n c (at_ : Int) x] w fun e w' => ∃ A' c', Own8 w' w.heap.size A' n c' l ∧ Below w.heap.size w w' ∧ e = .returned (.tuple #[rv A' n c' (at_ : Int) x, .string { data := #[] }]) := by
 have b1 : (x == 0) = false := beq_eq_false_iff_ne.2 hx
 go_enter Tryz.func70, Tryz.ntmps70
 go_wp2_with fail
 obtain ⟨W0, hW0⟩ : ∃ W, (w.alloc (.cells #[.slice A n c, .int .i64 (at_ : Int), .int .i64 x] 113)).alloc (.cells #[.slice none 0 0, .int .i64 0, .int .i64 0] 113) = W := ⟨_, rfl⟩
 have hs1 : (w.alloc (.cells #[.slice A n c, .int .i64 (at_ : Int), .int .i64 x] 113)).heap.size = w.heap.size + 1 := by unfold World.alloc; simp
 have hbox : Row W0 w.heap.size #[.slice A n c, .int .i64 (at_ : Int), .int .i64 x] 113 := by rw [← hW0]; exact (row_new w _ _).alloc _
 have hres : Row W0 (w.heap.size + 1) #[.slice none 0 0, .int .i64 0, .int .i64 0] 113 := by rw [← hW0, ← hs1]; exact row_new _ _ _
 have hb0 : Below w.heap.size w W0 := by rw [← hW0]; exact ((Below.refl _ w).alloc (Nat.le_refl _) _).alloc (by rw [hs1]; omega) _
 rw [hW0]
 (with_reducible refine (start_err A n c (at_ : Int) x l W0 (h.keep hb0) (by omega) hx).mono ?_)
 rintro e w1 ⟨A1, n1, c1, rfl, ho1, hb1⟩
 have hn1 : n1 = n := by have a := ho1.len; have b := h.len; omega
 subst hn1
 have hbox1 := hbox.belowS hb1 (Nat.le_refl _)
 have hres1 := hres.belowS hb1 (Nat.le_refl _)
 have HRES := Lib.hid hres1
 have HBX := Lib.hid hbox1
 have ho2 := ho1.base (show w.heap.size + 2 ≤ W0.heap.size from hres.lt)
 have HB1 := Lib.hid (bt hb0 hb1)
 have x0 := hbox1.cellQ 0 _ rfl
 have x1 := hbox1.cellQ 1 _ rfl
 have x2 := hbox1.cellQ 2 _ rfl
 have y0 := hbox1.frozen 0
 have y1 := hbox1.frozen 1
 have y2 := hbox1.frozen 2
 have v0 := hres1.cellQ 0 _ rfl
 have v1 := hres1.cellQ 1 _ rfl
 have v2 := hres1.cellQ 2 _ rfl
 have z0 := hres1.frozen 0
 have z1 := hres1.frozen 1
 have z2 := hres1.frozen 2
 have hc1 := ho2.cap
 have hm1' := ho2.max
 rw [maxLen_eq] at hm1'
 clear hW0 hs1 hbox hres hb0 hb1 hbox1 hres1 ho1
 clear hx
 go_wp2
 generalize hwf : World.setCell (World.setCell (World.setCell (World.setCell (World.setCell (World.setCell w1 _ _) _ _) _ _) _ _) _ _) _ _ = wf
 have hsf : setFrom (w.heap.size + 1) (setFrom w.heap.size w1 0 [.slice A1 n1 c1, .int .i64 (at_ : Int), .int .i64 x]) 0 [.slice A1 n1 c1, .int .i64 (at_ : Int), .int .i64 x] = wf := by rw [← hwf]; rfl
 have hrow := Row.all (HRES.out.far_setFrom (c := w.heap.size) (by omega) [.slice A1 n1 c1, .int .i64 (at_ : Int), .int .i64 x] 0) [.slice A1 n1 c1, .int .i64 (at_ : Int), .int .i64 x] rfl
 rw [hsf] at hrow
 have r0 := hrow.cellQ 0 _ rfl
 have r1 := hrow.cellQ 1 _ rfl
 have r2 := hrow.cellQ 2 _ rfl
 refine bodyPost_ret (v := .tuple #[.agg #[.slice A1 n1 c1, .int .i64 (at_ : Int), .int .i64 x], .string { data := #[] }]) (by simp [results, Tryz.results70, go_sem, r0, r1, r2]) rfl ?_
 have hown : Own8 wf w.heap.size A1 n1 c1 l := by rw [← hsf]; exact ⟨own_base (own_setFrom (own_setFrom ho2.own (by omega) [.slice A1 n1 c1, .int .i64 (at_ : Int), .int .i64 x] 0) (b := w.heap.size + 1) (by omega) _ 0) (by omega), ho2.len, ho2.cap, ho2.max⟩
 have hbel : Below w.heap.size w wf := by rw [← hsf]; exact below_setFrom (by omega) _ 0 (below_setFrom (Nat.le_refl _) [.slice A1 n1 c1, .int .i64 (at_ : Int), .int .i64 x] 0 HB1.out)
 exact ⟨A1, c1, hown, hbel, rfl⟩
theorem readDigest_more (A : Option Addr) (n c at_ : Nat) (l : List UInt8) (w : World) (h : Bs w A n c l) (hat : at_ ≤ n) (hn : n ≤ 1000000000) (hx : n < at_ + 32) :
  Calls Tryz.prog 70 #[rv A n c (at_ : Int) 0] w fun e w' => ∃ A' c', Own8 w' w.heap.size A' n c' l ∧ Below w.heap.size w w' ∧ e = .returned (.tuple #[rv A' n c' (at_ : Int) 4, .string { data := #[] }]) := by
 have b1 : (n : Int) - (at_ : Int) < 32 := by omega
 go_enter Tryz.func70, Tryz.ntmps70
 go_wp2_with fail
 obtain ⟨W0, hW0⟩ : ∃ W, (w.alloc (.cells #[.slice A n c, .int .i64 (at_ : Int), .int .i64 0] 113)).alloc (.cells #[.slice none 0 0, .int .i64 0, .int .i64 0] 113) = W := ⟨_, rfl⟩
 have hs1 : (w.alloc (.cells #[.slice A n c, .int .i64 (at_ : Int), .int .i64 0] 113)).heap.size = w.heap.size + 1 := by unfold World.alloc; simp
 have hbox : Row W0 w.heap.size #[.slice A n c, .int .i64 (at_ : Int), .int .i64 0] 113 := by rw [← hW0]; exact (row_new w _ _).alloc _
 have hres : Row W0 (w.heap.size + 1) #[.slice none 0 0, .int .i64 0, .int .i64 0] 113 := by rw [← hW0, ← hs1]; exact row_new _ _ _
 have hb0 : Below w.heap.size w W0 := by rw [← hW0]; exact ((Below.refl _ w).alloc (Nat.le_refl _) _).alloc (by rw [hs1]; omega) _
 rw [hW0]
 (with_reducible refine (start_ok A n c at_ l W0 (h.keep hb0) (by omega) hat).mono ?_)
 rintro e w1 ⟨A1, n1, c1, rfl, ho1, hb1⟩
 have hn1 : n1 = n := by have a := ho1.len; have b := h.len; omega
 subst hn1
 have hbox1 := hbox.belowS hb1 (Nat.le_refl _)
 have hres1 := hres.belowS hb1 (Nat.le_refl _)
 have HRES := Lib.hid hres1
 have HBX := Lib.hid hbox1
 have ho2 := ho1.base (show w.heap.size + 2 ≤ W0.heap.size from hres.lt)
 have HB1 := Lib.hid (bt hb0 hb1)
 have x0 := hbox1.cellQ 0 _ rfl
 have x1 := hbox1.cellQ 1 _ rfl
 have x2 := hbox1.cellQ 2 _ rfl
 have y0 := hbox1.frozen 0
 have y1 := hbox1.frozen 1
 have y2 := hbox1.frozen 2
 have v0 := hres1.cellQ 0 _ rfl
 have v1 := hres1.cellQ 1 _ rfl
 have v2 := hres1.cellQ 2 _ rfl
 have z0 := hres1.frozen 0
 have z1 := hres1.frozen 1
 have z2 := hres1.frozen 2
 have hc1 := ho2.cap
 have hm1' := ho2.max
 rw [maxLen_eq] at hm1'
 clear hW0 hs1 hbox hres hb0 hb1 hbox1 hres1 ho1
 go_upto_region 5 with fail
 generalize hwd : World.setCell (World.setCell (World.setCell w1 _ _) _ _) _ _ = wd
 have hsf : setFrom w.heap.size w1 0 [.slice A1 n1 c1, .int .i64 (at_ : Int), .int .i64 0] = wd := by rw [← hwd]; rfl
 have hbx2 := HBX.out.all [.slice A1 n1 c1, .int .i64 (at_ : Int), .int .i64 0] rfl
 have hrs2 := HRES.out.far_setFrom (c := w.heap.size) (by omega) [.slice A1 n1 c1, .int .i64 (at_ : Int), .int .i64 0] 0
 have hbd := below_setFrom (Nat.le_refl _) [.slice A1 n1 c1, .int .i64 (at_ : Int), .int .i64 0] 0 HB1.out
 have ho3 : Own8 wd (w.heap.size + 2) A1 n1 c1 l := by rw [← hsf]; exact ⟨own_setFrom ho2.own (by omega) _ 0, ho2.len, ho2.cap, ho2.max⟩
 rw [hsf] at hbx2 hrs2 hbd
 clear x0 x1 x2 y0 y1 y2 v0 v1 v2 z0 z1 z2 hwd hsf ho2
 have HRS2 := Lib.hid hrs2
 have HB3 := Lib.hid hbd
 have x0 := hbx2.cellQ 0 _ rfl
 have x1 := hbx2.cellQ 1 _ rfl
 have x2 := hbx2.cellQ 2 _ rfl
 have y0 := hbx2.frozen 0
 have y1 := hbx2.frozen 1
 have y2 := hbx2.frozen 2
 have v0 := hrs2.cellQ 0 _ rfl
 have v1 := hrs2.cellQ 1 _ rfl
 have v2 := hrs2.cellQ 2 _ rfl
 have z0 := hrs2.frozen 0
 have z1 := hrs2.frozen 1
 have z2 := hrs2.frozen 2
 have hB2 : w.heap.size + 2 ≤ wd.heap.size := hrs2.lt
 clear hbx2 hrs2 hbd HRES HBX HB1
 go_wp2
 generalize hwf : World.setCell (World.setCell (World.setCell (World.setCell wd _ _) _ _) _ _) _ _ = wf
 have hsf : setFrom (w.heap.size + 1) (wd.setCell ⟨w.heap.size, 2, none⟩ (.int .i64 4)) 0 [.slice A1 n1 c1, .int .i64 (at_ : Int), .int .i64 4] = wf := by rw [← hwf]; rfl
 have hrow := (HRS2.out.far w.heap.size 2 (.int .i64 4) (by omega)).all [.slice A1 n1 c1, .int .i64 (at_ : Int), .int .i64 4] rfl
 rw [hsf] at hrow
 have r0 := hrow.cellQ 0 _ rfl
 have r1 := hrow.cellQ 1 _ rfl
 have r2 := hrow.cellQ 2 _ rfl
 refine bodyPost_ret (v := .tuple #[rv A1 n1 c1 (at_ : Int) 4, .string { data := #[] }]) (by simp [results, Tryz.results70, go_sem, r0, r1, r2]) rfl ?_
 have hown : Own8 wf w.heap.size A1 n1 c1 l := by rw [← hsf]; exact ⟨own_base (own_setFrom (own_setFrom ho3.own (by omega) [_] 2) (by omega) _ 0) (by omega), ho3.len, ho3.cap, ho3.max⟩
 have hbel : Below w.heap.size w wf := by rw [← hsf]; exact below_setFrom (by omega) _ 0 (HB3.out.setCell (Nat.le_refl _) _)
 exact ⟨A1, c1, hown, hbel, rfl⟩
theorem readDigest_ok (A : Option Addr) (n c at_ : Nat) (l : List UInt8) (w : World) (h : Bs w A n c l) (hat : at_ ≤ n) (hn : n ≤ 1000000000) (hx : ¬ n < at_ + 32) :
  Calls Tryz.prog 70 #[rv A n c (at_ : Int) 0] w fun e w' => ∃ A' c', Own8 w' w.heap.size A' n c' l ∧ Below w.heap.size w w' ∧ e = .returned (.tuple #[rv A' n c' ((at_ : Int) + 32) 0, sv ((l.take (at_ + 32)).drop at_)]) := by
 have b1 : ¬ (n : Int) - (at_ : Int) < 32 := by omega
 have b2 : (32 : Int) ≤ (n : Int) - (at_ : Int) := by omega
 go_enter Tryz.func70, Tryz.ntmps70
 go_wp2_with fail
 obtain ⟨W0, hW0⟩ : ∃ W, (w.alloc (.cells #[.slice A n c, .int .i64 (at_ : Int), .int .i64 0] 113)).alloc (.cells #[.slice none 0 0, .int .i64 0, .int .i64 0] 113) = W := ⟨_, rfl⟩
 have hs1 : (w.alloc (.cells #[.slice A n c, .int .i64 (at_ : Int), .int .i64 0] 113)).heap.size = w.heap.size + 1 := by unfold World.alloc; simp
 have hbox : Row W0 w.heap.size #[.slice A n c, .int .i64 (at_ : Int), .int .i64 0] 113 := by rw [← hW0]; exact (row_new w _ _).alloc _
 have hres : Row W0 (w.heap.size + 1) #[.slice none 0 0, .int .i64 0, .int .i64 0] 113 := by rw [← hW0, ← hs1]; exact row_new _ _ _
 have hb0 : Below w.heap.size w W0 := by rw [← hW0]; exact ((Below.refl _ w).alloc (Nat.le_refl _) _).alloc (by rw [hs1]; omega) _
 rw [hW0]
 (with_reducible refine (start_ok A n c at_ l W0 (h.keep hb0) (by omega) hat).mono ?_)
 rintro e w1 ⟨A1, n1, c1, rfl, ho1, hb1⟩
 have hn1 : n1 = n := by have a := ho1.len; have b := h.len; omega
 subst hn1
 have hbox1 := hbox.belowS hb1 (Nat.le_refl _)
 have hres1 := hres.belowS hb1 (Nat.le_refl _)
 have HRES := Lib.hid hres1
 have HBX := Lib.hid hbox1
 have ho2 := ho1.base (show w.heap.size + 2 ≤ W0.heap.size from hres.lt)
 have HB1 := Lib.hid (bt hb0 hb1)
 have x0 := hbox1.cellQ 0 _ rfl
 have x1 := hbox1.cellQ 1 _ rfl
 have x2 := hbox1.cellQ 2 _ rfl
 have y0 := hbox1.frozen 0
 have y1 := hbox1.frozen 1
 have y2 := hbox1.frozen 2
 have v0 := hres1.cellQ 0 _ rfl
 have v1 := hres1.cellQ 1 _ rfl
 have v2 := hres1.cellQ 2 _ rfl
 have z0 := hres1.frozen 0
 have z1 := hres1.frozen 1
 have z2 := hres1.frozen 2
 have hc1 := ho2.cap
 have hm1' := ho2.max
 rw [maxLen_eq] at hm1'
 clear hW0 hs1 hbox hres hb0 hb1 hbox1 hres1 ho1
 go_upto_region 7 with fail
 generalize hwd : World.setCell (World.setCell (World.setCell w1 _ _) _ _) _ _ = wd
 have hsf : setFrom w.heap.size w1 0 [.slice A1 n1 c1, .int .i64 (at_ : Int), .int .i64 0] = wd := by rw [← hwd]; rfl
 have hbx2 := HBX.out.all [.slice A1 n1 c1, .int .i64 (at_ : Int), .int .i64 0] rfl
 have hrs2 := HRES.out.far_setFrom (c := w.heap.size) (by omega) [.slice A1 n1 c1, .int .i64 (at_ : Int), .int .i64 0] 0
 have hbd := below_setFrom (Nat.le_refl _) [.slice A1 n1 c1, .int .i64 (at_ : Int), .int .i64 0] 0 HB1.out
 have ho3 : Own8 wd (w.heap.size + 2) A1 n1 c1 l := by rw [← hsf]; exact ⟨own_setFrom ho2.own (by omega) _ 0, ho2.len, ho2.cap, ho2.max⟩
 rw [hsf] at hbx2 hrs2 hbd
 clear x0 x1 x2 y0 y1 y2 v0 v1 v2 z0 z1 z2 hwd hsf ho2
 have HRS2 := Lib.hid hrs2
 have HB3 := Lib.hid hbd
 have x0 := hbx2.cellQ 0 _ rfl
 have x1 := hbx2.cellQ 1 _ rfl
 have x2 := hbx2.cellQ 2 _ rfl
 have y0 := hbx2.frozen 0
 have y1 := hbx2.frozen 1
 have y2 := hbx2.frozen 2
 have v0 := hrs2.cellQ 0 _ rfl
 have v1 := hrs2.cellQ 1 _ rfl
 have v2 := hrs2.cellQ 2 _ rfl
 have z0 := hrs2.frozen 0
 have z1 := hrs2.frozen 1
 have z2 := hrs2.frozen 2
 have hB2 : w.heap.size + 2 ≤ wd.heap.size := hrs2.lt
 clear hbx2 hrs2 hbd HRES HBX HB1
 have hlv := ho3.len
 have hr3 := ho3.bs.rd
 go_wp2_with (first
  | (refine wl_cut_lh rfl 28 (.tmp 21) (.tmp 23) (.tmp 26) rfl 5 Tryz.underlying28 size_u8 A1 n1 c1 rfl .i64 .i64 ((at_ : Nat) : Int) ((at_ + 32 : Nat) : Int) (congrArg (Value.int .i64) (by push_cast; rfl)) (congrArg (Value.int .i64) (by push_cast; rfl)) (by omega) (by omega) (by omega) hc1 wd.heap.size (l.map bv) hr3 (by simpa using hlv) ?_; intro A7 hr7; rw [Int.toNat_natCast, Int.toNat_natCast, ← List.map_take, ← List.map_drop] at hr7; rw [Int.toNat_natCast, Int.toNat_natCast]; have HR7 := Lib.hid hr7; clear hr7)
  | (refine wl_str rfl 28 9 (.tmp 27) rfl 5 Tryz.underlying28 Tryz.underlying5 Tryz.underlying9 A7 _ _ rfl wd.heap.size ((l.take (at_ + 32)).drop at_) HR7.out (by rw [List.length_drop, List.length_take, hlv]; omega) ?_))
 generalize hwf : World.setCell (World.setCell (World.setCell (World.setCell wd _ _) _ _) _ _) _ _ = wf
 have hsf : setFrom (w.heap.size + 1) (wd.setCell ⟨w.heap.size, 1, none⟩ (.int .i64 ((at_ : Int) + 32))) 0 [.slice A1 n1 c1, .int .i64 ((at_ : Int) + 32), .int .i64 0] = wf := by rw [← hwf]; rfl
 have hrow := (HRS2.out.far w.heap.size 1 (.int .i64 ((at_ : Int) + 32)) (by omega)).all [.slice A1 n1 c1, .int .i64 ((at_ : Int) + 32), .int .i64 0] rfl
 rw [hsf] at hrow
 have r0 := hrow.cellQ 0 _ rfl
 have r1 := hrow.cellQ 1 _ rfl
 have r2 := hrow.cellQ 2 _ rfl
 refine bodyPost_ret (v := .tuple #[rv A1 n1 c1 ((at_ : Int) + 32) 0, sv ((l.take (at_ + 32)).drop at_)]) (by simp [results, Tryz.results70, go_sem, r0, r1, r2]) rfl ?_
 have hown : Own8 wf w.heap.size A1 n1 c1 l := by rw [← hsf]; exact ⟨own_base (own_setFrom (own_setFrom ho3.own (by omega) [_] 1) (by omega) _ 0) (by omega), ho3.len, ho3.cap, ho3.max⟩
 have hbel : Below w.heap.size w wf := by rw [← hsf]; exact below_setFrom (by omega) _ 0 (HB3.out.setCell (Nat.le_refl _) _)
 exact ⟨A1, c1, hown, hbel, rfl⟩
namespace Hd
structure RS where
 at_ : Nat
 x : Nat
def stText (l : By) (most : Int) (s : RS) : RS × By := if s.x = 0 then match Code.getText most (l.drop s.at_) with
  | .ok (v, k) => (⟨s.at_ + k, 0⟩, v)
  | .error e => (⟨s.at_, e⟩, [])
 else (s, [])
def stDig (l : By) (s : RS) : RS × By := if s.x = 0 then (if l.length < s.at_ + 32 then (⟨s.at_, 4⟩, []) else (⟨s.at_ + 32, 0⟩, (l.take (s.at_ + 32)).drop s.at_)) else (s, [])
theorem stText_at {l : By} {most : Int} {s : RS} (h : s.at_ ≤ l.length) : (stText l most s).1.at_ ≤ l.length := by
 unfold stText
 split
 ·
  cases hg : Code.getText most (l.drop s.at_) with
  | error e => exact h
  | ok r =>
   obtain ⟨v, k⟩ := r
   obtain ⟨_, hk1, hk, _⟩ := Code.getText_ok hg
   rw [List.length_drop] at hk
   show s.at_ + k ≤ _
   omega
 · exact h
theorem stDig_at {l : By} {s : RS} (h : s.at_ ≤ l.length) : (stDig l s).1.at_ ≤ l.length := by
 unfold stDig
 split
 ·
  split
  · exact h
  · show s.at_ + 32 ≤ _; omega
 · exact h
end Hd
def RSPost (l : List UInt8) (n : Nat) (s : Hd.RS) (v : Value) (w : World) (e : Ending) (w' : World) : Prop := ∃ A' c', Own8 w' w.heap.size A' n c' l ∧ Below w.heap.size w w' ∧ e = .returned (.tuple #[rv A' n c' (s.at_ : Int) (s.x : Int), v])
theorem readText_st (A : Option Addr) (n c : Nat) (most : Int) (l : List UInt8) (s : Hd.RS) (w : World) (h : Bs w A n c l) (hat : s.at_ ≤ n) (hn : n ≤ 1000000000) (hm1 : -9223372036854775808 ≤ most) (hm2 : most ≤ 9223372036854775807) :
  Calls Tryz.prog 69 #[rv A n c (s.at_ : Int) (s.x : Int), .int .i64 most] w (RSPost l n (Hd.stText l most s).1 (sv (Hd.stText l most s).2) w) := by
 obtain ⟨a, x⟩ := s
 by_cases hx : x = 0
 ·
  subst hx
  refine (readText_any A n c a most l w h hat hn hm1 hm2).mono ?_
  rintro e w1 ⟨A1, c1, ho, hb, hr⟩
  refine ⟨A1, c1, ho, hb, ?_⟩
  unfold Hd.stText
  simp only [if_true]
  cases hg : Code.getText most (l.drop a) with
  | ok r => obtain ⟨v, k⟩ := r; rw [hg] at hr; exact hr
  | error e => rw [hg] at hr; exact hr
 ·
  refine (readText_bad A n c a (x : Int) most l w h hn (by omega)).mono ?_
  rintro e w1 ⟨A1, c1, ho, hb, hr⟩
  refine ⟨A1, c1, ho, hb, ?_⟩
  unfold Hd.stText
  simp only [if_neg hx]
  exact hr
theorem readDigest_st (A : Option Addr) (n c : Nat) (l : List UInt8) (s : Hd.RS) (w : World) (h : Bs w A n c l) (hat : s.at_ ≤ n) (hn : n ≤ 1000000000) :
  Calls Tryz.prog 70 #[rv A n c (s.at_ : Int) (s.x : Int)] w (RSPost l n (Hd.stDig l s).1 (sv (Hd.stDig l s).2) w) := by
 obtain ⟨a, x⟩ := s
 have hl := h.len
 by_cases hx : x = 0
 ·
  subst hx
  by_cases hm : n < a + 32
  ·
   refine (readDigest_more A n c a l w h hat hn hm).mono ?_
   rintro e w1 ⟨A1, c1, ho, hb, hr⟩
   refine ⟨A1, c1, ho, hb, ?_⟩
   unfold Hd.stDig
   simp only [if_true]
   rw [if_pos (by omega)]
   exact hr
  ·
   refine (readDigest_ok A n c a l w h hat hn hm).mono ?_
   rintro e w1 ⟨A1, c1, ho, hb, hr⟩
   refine ⟨A1, c1, ho, hb, ?_⟩
   unfold Hd.stDig
   simp only [if_true]
   rw [if_neg (by omega)]
   exact hr
 ·
  refine (readDigest_bad A n c a (x : Int) l w h hn (by omega)).mono ?_
  rintro e w1 ⟨A1, c1, ho, hb, hr⟩
  refine ⟨A1, c1, ho, hb, ?_⟩
  unfold Hd.stDig
  simp only [if_neg hx]
  exact hr
end Go.Proofs.YteoledjllpgcbaaGreatDoor
