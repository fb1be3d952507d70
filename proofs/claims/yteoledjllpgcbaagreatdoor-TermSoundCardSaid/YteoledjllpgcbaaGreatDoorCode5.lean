/- ReadNum, ReadText, ReadList of a reader without an error. No statement of the seat is proved here. -/
import Derived.Test.YteoledjllpgcbaaGreatDoorMCode
namespace Go.Proofs.YteoledjllpgcbaaGreatDoor
set_option maxRecDepth 100000
set_option maxHeartbeats 64000000
set_option linter.unusedVariables false
open Go.RowKit
def ReadNumRet (A : Option Addr) (n c at_ : Nat) (e : Ending) : Except Nat (Nat × Nat) → Prop
 | .ok (v, k) => e = .returned (.tuple #[rv A n c ((at_ + k : Nat) : Int) 0, .int .i64 (v : Int)])
 | .error x => e = .returned (.tuple #[rv A n c (at_ : Int) (x : Int), .int .i64 0])
def ReadNumPost (l : List UInt8) (n at_ : Nat) (w : World) (e : Ending) (w' : World) : Prop := ∃ A c, Own8 w' w.heap.size A n c l ∧ Below w.heap.size w w' ∧ ReadNumRet A n c at_ e (Code.getNum (l.drop at_))
def ReadTextRet (A : Option Addr) (n c at_ : Nat) (e : Ending) : Except Nat (List UInt8 × Nat) → Prop
 | .ok (v, k) => e = .returned (.tuple #[rv A n c ((at_ + k : Nat) : Int) 0, sv v])
 | .error x => e = .returned (.tuple #[rv A n c (at_ : Int) (x : Int), .string { data := #[] }])
def ReadTextPost (l : List UInt8) (n at_ : Nat) (most : Int) (w : World) (e : Ending) (w' : World) : Prop := ∃ A c, Own8 w' w.heap.size A n c l ∧ Below w.heap.size w w' ∧ ReadTextRet A n c at_ e (Code.getText most (l.drop at_))
def Num1 (l : List UInt8) (at_ : Nat) (w : World) (e : Ending) (w' : World) : Prop := GetNumRet at_ e (Code.getNum (l.drop at_)) ∧ Below w.heap.size w w'
def Text1 (l : List UInt8) (at_ : Nat) (most : Int) (w : World) (e : Ending) (w' : World) : Prop := GetTextRet at_ e (Code.getText most (l.drop at_)) ∧ Below w.heap.size w w'
theorem getNum1 (A : Option Addr) (n c at_ : Nat) (l : List UInt8) (w : World) (h : Bs w A n c l) (hat : at_ ≤ n) (hn : n ≤ 140737488355328) :
  Calls Tryz.prog 138 #[.slice A n c, .int .i64 (at_ : Int)] w (Num1 l at_ w) := (getNum_any A n c at_ l w h hat hn).mono fun e w' h => ⟨h.1, by have := h.2; subst this; exact Below.refl _ _⟩
theorem getText1 (A : Option Addr) (n c at_ : Nat) (most : Int) (l : List UInt8) (w : World) (h : Bs w A n c l) (hat : at_ ≤ n) (hn : n ≤ 140737488355328) (hm1 : -9223372036854775808 ≤ most) (hm2 : most ≤ 9223372036854775807) :
  Calls Tryz.prog 119 #[.slice A n c, .int .i64 (at_ : Int), .int .i64 most] w (Text1 l at_ most w) := (getText_any A n c at_ most l w h hat hn hm1 hm2).mono fun e w' h => ⟨h.1, by have := h.2; subst this; exact Below.refl _ _⟩
theorem readNum_any (A : Option Addr) (n c at_ : Nat) (l : List UInt8) (w : World) (h : Bs w A n c l) (hat : at_ ≤ n) (hn : n ≤ 1000000000) :
  Calls Tryz.prog 127 #[rv A n c (at_ : Int) 0] w (ReadNumPost l n at_ w) := by
 have hcall := fun (W : World) (A1 : Option Addr) (c1 : Nat) (hB : Bs W A1 n c1 l) => getNum1 A1 n c1 at_ l W hB hat (by omega)
 unfold Num1 at hcall
 cases hg : Code.getNum (l.drop at_) with
 | ok r =>
  obtain ⟨v, k⟩ := r
  rw [hg] at hcall
  have HC := Lib.hid hcall
  have HG := Lib.hid hg
  clear hcall hg
  go_enter Tryz.func127, Tryz.ntmps127
  go_wp2_with fail
  obtain ⟨W0, hW0⟩ : ∃ W, (w.alloc (.cells #[.slice A n c, .int .i64 (at_ : Int), .int .i64 0] 113)).alloc (.cells #[.slice none 0 0, .int .i64 0, .int .i64 0] 113) = W := ⟨_, rfl⟩
  have hs1 : (w.alloc (.cells #[.slice A n c, .int .i64 (at_ : Int), .int .i64 0] 113)).heap.size = w.heap.size + 1 := by unfold World.alloc; simp
  have hbox : Row W0 w.heap.size #[.slice A n c, .int .i64 (at_ : Int), .int .i64 0] 113 := by rw [← hW0]; exact (row_new w _ _).alloc _
  have hres : Row W0 (w.heap.size + 1) #[.slice none 0 0, .int .i64 0, .int .i64 0] 113 := by rw [← hW0, ← hs1]; exact row_new _ _ _
  have hb0 : Below w.heap.size w W0 := by rw [← hW0]; exact ((Below.refl _ w).alloc (Nat.le_refl _) _).alloc (by rw [hs1]; omega) _
  rw [hW0]
  refine (start_ok A n c at_ l W0 (h.keep hb0) (by omega) hat).mono ?_
  rintro e w1 ⟨A1, n1, c1, rfl, ho1, hb1⟩
  have hn1 : n1 = n := by have a := ho1.len; have b := h.len; omega
  subst hn1
  have hbox1 := hbox.belowS hb1 (Nat.le_refl _)
  have HRES := Lib.hid (hres.belowS hb1 (Nat.le_refl _))
  have HBX := Lib.hid hbox1
  have ho2 := ho1.base (show w.heap.size + 2 ≤ W0.heap.size from hres.lt)
  have HB1 := Lib.hid (bt hb0 hb1)
  have x0 := hbox1.cellQ 0 _ rfl
  have x1 := hbox1.cellQ 1 _ rfl
  have x2 := hbox1.cellQ 2 _ rfl
  have y0 := hbox1.frozen 0
  have y1 := hbox1.frozen 1
  have y2 := hbox1.frozen 2
  clear hW0 hs1 hbox hres hb0 hb1 hbox1 ho1
  go_wp2_with fail
  generalize hwd : World.setCell (World.setCell (World.setCell w1 _ _) _ _) _ _ = wd
  have hsf : setFrom w.heap.size w1 0 [.slice A1 n1 c1, .int .i64 (at_ : Int), .int .i64 0] = wd := by rw [← hwd]; rfl
  have hbx2 := HBX.out.all [.slice A1 n1 c1, .int .i64 (at_ : Int), .int .i64 0] rfl
  have hrs2 := HRES.out.far_setFrom (c := w.heap.size) (by omega) [.slice A1 n1 c1, .int .i64 (at_ : Int), .int .i64 0] 0
  have hbd := below_setFrom (Nat.le_refl _) [.slice A1 n1 c1, .int .i64 (at_ : Int), .int .i64 0] 0 HB1.out
  have ho3 : Own8 wd (w.heap.size + 2) A1 n1 c1 l := by rw [← hsf]; exact ⟨own_setFrom ho2.own (by omega) _ 0, ho2.len, ho2.cap, ho2.max⟩
  rw [hsf] at hbx2 hrs2 hbd
  clear x0 x1 x2 y0 y1 y2 hwd hsf ho2
  have hB2 : w.heap.size + 2 ≤ wd.heap.size := hrs2.lt
  have HBX2 := Lib.hid hbx2
  have HRS2 := Lib.hid hrs2
  have HBD := Lib.hid hbd
  clear hbx2 hrs2 hbd HRES HBX HB1
  refine (HC.out wd A1 c1 ho3.bs).mono ?_
  rintro e w2 ⟨he, hb2⟩
  have hbx3 := HBX2.out.belowS hb2 (Nat.le_refl _)
  have hrs3 := HRS2.out.belowS hb2 (Nat.le_refl _)
  have HBX3 := Lib.hid hbx3
  have HRS3 := Lib.hid hrs3
  have HB3 := Lib.hid (bt HBD.out hb2)
  have ho4 := ho3.keep hb2
  have x0 := hbx3.cellQ 0 _ rfl
  have x1 := hbx3.cellQ 1 _ rfl
  have x2 := hbx3.cellQ 2 _ rfl
  have y1 := hbx3.frozen 1
  have y2 := hbx3.frozen 2
  have v0 := hrs3.cellQ 0 _ rfl
  have v1 := hrs3.cellQ 1 _ rfl
  have v2 := hrs3.cellQ 2 _ rfl
  have z0 := hrs3.frozen 0
  have z1 := hrs3.frozen 1
  have z2 := hrs3.frozen 2
  clear hb2 hbx3 hrs3
  subst he
  go_wp2
  generalize hwf : World.setCell (World.setCell (World.setCell (World.setCell w2 _ _) _ _) _ _) _ _ = wf
  have hsf : setFrom (w.heap.size + 1) (w2.setCell ⟨w.heap.size, 1, none⟩ (.int .i64 ((at_ : Int) + (k : Int)))) 0 [.slice A1 n1 c1, .int .i64 ((at_ : Int) + (k : Int)), .int .i64 0] = wf := by rw [← hwf]; rfl
  have hrow := (HRS3.out.far w.heap.size 1 (.int .i64 ((at_ : Int) + (k : Int))) (by omega)).all [.slice A1 n1 c1, .int .i64 ((at_ : Int) + (k : Int)), .int .i64 0] rfl
  rw [hsf] at hrow
  have r0 := hrow.cellQ 0 _ rfl
  have r1 := hrow.cellQ 1 _ rfl
  have r2 := hrow.cellQ 2 _ rfl
  refine bodyPost_ret (v := .tuple #[rv A1 n1 c1 ((at_ : Int) + (k : Int)) 0, .int .i64 (v : Int)]) (by simp [results, Tryz.results127, go_sem, r0, r1, r2]) rfl ?_
  have hown : Own8 wf w.heap.size A1 n1 c1 l := by rw [← hsf]; exact ⟨own_base (own_setFrom (own_setFrom ho4.own (by omega) [_] 1) (by omega) _ 0) (by omega), ho4.len, ho4.cap, ho4.max⟩
  have hbel : Below w.heap.size w wf := by rw [← hsf]; exact below_setFrom (by omega) _ 0 (HB3.out.setCell (Nat.le_refl _) _)
  refine ⟨A1, c1, hown, hbel, ?_⟩
  rw [HG.out]
  show _ = _
  simp
 | error x =>
  rw [hg] at hcall
  have hx := getNum_err hg
  have HC := Lib.hid hcall
  have HG := Lib.hid hg
  clear hcall hg
  have b1 : ((x : Int) == 0) = false := beq_eq_false_iff_ne.2 (by omega)
  have HX := Lib.hid hx
  clear hx
  go_enter Tryz.func127, Tryz.ntmps127
  go_wp2_with fail
  obtain ⟨W0, hW0⟩ : ∃ W, (w.alloc (.cells #[.slice A n c, .int .i64 (at_ : Int), .int .i64 0] 113)).alloc (.cells #[.slice none 0 0, .int .i64 0, .int .i64 0] 113) = W := ⟨_, rfl⟩
  have hs1 : (w.alloc (.cells #[.slice A n c, .int .i64 (at_ : Int), .int .i64 0] 113)).heap.size = w.heap.size + 1 := by unfold World.alloc; simp
  have hbox : Row W0 w.heap.size #[.slice A n c, .int .i64 (at_ : Int), .int .i64 0] 113 := by rw [← hW0]; exact (row_new w _ _).alloc _
  have hres : Row W0 (w.heap.size + 1) #[.slice none 0 0, .int .i64 0, .int .i64 0] 113 := by rw [← hW0, ← hs1]; exact row_new _ _ _
  have hb0 : Below w.heap.size w W0 := by rw [← hW0]; exact ((Below.refl _ w).alloc (Nat.le_refl _) _).alloc (by rw [hs1]; omega) _
  rw [hW0]
  refine (start_ok A n c at_ l W0 (h.keep hb0) (by omega) hat).mono ?_
  rintro e w1 ⟨A1, n1, c1, rfl, ho1, hb1⟩
  have hn1 : n1 = n := by have a := ho1.len; have b := h.len; omega
  subst hn1
  have hbox1 := hbox.belowS hb1 (Nat.le_refl _)
  have HRES := Lib.hid (hres.belowS hb1 (Nat.le_refl _))
  have HBX := Lib.hid hbox1
  have ho2 := ho1.base (show w.heap.size + 2 ≤ W0.heap.size from hres.lt)
  have HB1 := Lib.hid (bt hb0 hb1)
  have x0 := hbox1.cellQ 0 _ rfl
  have x1 := hbox1.cellQ 1 _ rfl
  have x2 := hbox1.cellQ 2 _ rfl
  have y0 := hbox1.frozen 0
  have y1 := hbox1.frozen 1
  have y2 := hbox1.frozen 2
  clear hW0 hs1 hbox hres hb0 hb1 hbox1 ho1
  go_wp2_with fail
  generalize hwd : World.setCell (World.setCell (World.setCell w1 _ _) _ _) _ _ = wd
  have hsf : setFrom w.heap.size w1 0 [.slice A1 n1 c1, .int .i64 (at_ : Int), .int .i64 0] = wd := by rw [← hwd]; rfl
  have hbx2 := HBX.out.all [.slice A1 n1 c1, .int .i64 (at_ : Int), .int .i64 0] rfl
  have hrs2 := HRES.out.far_setFrom (c := w.heap.size) (by omega) [.slice A1 n1 c1, .int .i64 (at_ : Int), .int .i64 0] 0
  have hbd := below_setFrom (Nat.le_refl _) [.slice A1 n1 c1, .int .i64 (at_ : Int), .int .i64 0] 0 HB1.out
  have ho3 : Own8 wd (w.heap.size + 2) A1 n1 c1 l := by rw [← hsf]; exact ⟨own_setFrom ho2.own (by omega) _ 0, ho2.len, ho2.cap, ho2.max⟩
  rw [hsf] at hbx2 hrs2 hbd
  clear x0 x1 x2 y0 y1 y2 hwd hsf ho2
  have hB2 : w.heap.size + 2 ≤ wd.heap.size := hrs2.lt
  have HBX2 := Lib.hid hbx2
  have HRS2 := Lib.hid hrs2
  have HBD := Lib.hid hbd
  clear hbx2 hrs2 hbd HRES HBX HB1
  refine (HC.out wd A1 c1 ho3.bs).mono ?_
  rintro e w2 ⟨he, hb2⟩
  have hbx3 := HBX2.out.belowS hb2 (Nat.le_refl _)
  have hrs3 := HRS2.out.belowS hb2 (Nat.le_refl _)
  have HBX3 := Lib.hid hbx3
  have HRS3 := Lib.hid hrs3
  have HB3 := Lib.hid (bt HBD.out hb2)
  have ho4 := ho3.keep hb2
  have x0 := hbx3.cellQ 0 _ rfl
  have x1 := hbx3.cellQ 1 _ rfl
  have x2 := hbx3.cellQ 2 _ rfl
  have y1 := hbx3.frozen 1
  have y2 := hbx3.frozen 2
  have v0 := hrs3.cellQ 0 _ rfl
  have v1 := hrs3.cellQ 1 _ rfl
  have v2 := hrs3.cellQ 2 _ rfl
  have z0 := hrs3.frozen 0
  have z1 := hrs3.frozen 1
  have z2 := hrs3.frozen 2
  clear hb2 hbx3 hrs3
  subst he
  go_wp2
  generalize hwf : World.setCell (World.setCell (World.setCell (World.setCell w2 _ _) _ _) _ _) _ _ = wf
  have hsf : setFrom (w.heap.size + 1) (w2.setCell ⟨w.heap.size, 2, none⟩ (.int .i64 ((x : Int)))) 0 [.slice A1 n1 c1, .int .i64 ((at_ : Int)), .int .i64 (x : Int)] = wf := by rw [← hwf]; rfl
  have hrow := (HRS3.out.far w.heap.size 2 (.int .i64 ((x : Int))) (by omega)).all [.slice A1 n1 c1, .int .i64 ((at_ : Int)), .int .i64 (x : Int)] rfl
  rw [hsf] at hrow
  have r0 := hrow.cellQ 0 _ rfl
  have r1 := hrow.cellQ 1 _ rfl
  have r2 := hrow.cellQ 2 _ rfl
  refine bodyPost_ret (v := .tuple #[rv A1 n1 c1 ((at_ : Int)) (x : Int), .int .i64 0]) (by simp [results, Tryz.results127, go_sem, r0, r1, r2]) rfl ?_
  have hown : Own8 wf w.heap.size A1 n1 c1 l := by rw [← hsf]; exact ⟨own_base (own_setFrom (own_setFrom ho4.own (by omega) [_] 2) (by omega) _ 0) (by omega), ho4.len, ho4.cap, ho4.max⟩
  have hbel : Below w.heap.size w wf := by rw [← hsf]; exact below_setFrom (by omega) _ 0 (HB3.out.setCell (Nat.le_refl _) _)
  refine ⟨A1, c1, hown, hbel, ?_⟩
  rw [HG.out]
  exact rfl
theorem readText_any (A : Option Addr) (n c at_ : Nat) (most : Int) (l : List UInt8) (w : World) (h : Bs w A n c l) (hat : at_ ≤ n) (hn : n ≤ 1000000000) (hm1 : -9223372036854775808 ≤ most) (hm2 : most ≤ 9223372036854775807) :
  Calls Tryz.prog 69 #[rv A n c (at_ : Int) 0, .int .i64 most] w (ReadTextPost l n at_ most w) := by
 have hcall := fun (W : World) (A1 : Option Addr) (c1 : Nat) (hB : Bs W A1 n c1 l) => getText1 A1 n c1 at_ most l W hB hat (by omega) hm1 hm2
 unfold Text1 at hcall
 cases hg : Code.getText most (l.drop at_) with
 | ok r =>
  obtain ⟨v, k⟩ := r
  rw [hg] at hcall
  have HC := Lib.hid hcall
  have HG := Lib.hid hg
  clear hcall hg
  go_enter Tryz.func69, Tryz.ntmps69
  go_wp2_with fail
  obtain ⟨W0, hW0⟩ : ∃ W, (w.alloc (.cells #[.slice A n c, .int .i64 (at_ : Int), .int .i64 0] 113)).alloc (.cells #[.slice none 0 0, .int .i64 0, .int .i64 0] 113) = W := ⟨_, rfl⟩
  have hs1 : (w.alloc (.cells #[.slice A n c, .int .i64 (at_ : Int), .int .i64 0] 113)).heap.size = w.heap.size + 1 := by unfold World.alloc; simp
  have hbox : Row W0 w.heap.size #[.slice A n c, .int .i64 (at_ : Int), .int .i64 0] 113 := by rw [← hW0]; exact (row_new w _ _).alloc _
  have hres : Row W0 (w.heap.size + 1) #[.slice none 0 0, .int .i64 0, .int .i64 0] 113 := by rw [← hW0, ← hs1]; exact row_new _ _ _
  have hb0 : Below w.heap.size w W0 := by rw [← hW0]; exact ((Below.refl _ w).alloc (Nat.le_refl _) _).alloc (by rw [hs1]; omega) _
  rw [hW0]
  refine (start_ok A n c at_ l W0 (h.keep hb0) (by omega) hat).mono ?_
  rintro e w1 ⟨A1, n1, c1, rfl, ho1, hb1⟩
  have hn1 : n1 = n := by have a := ho1.len; have b := h.len; omega
  subst hn1
  have hbox1 := hbox.belowS hb1 (Nat.le_refl _)
  have HRES := Lib.hid (hres.belowS hb1 (Nat.le_refl _))
  have HBX := Lib.hid hbox1
  have ho2 := ho1.base (show w.heap.size + 2 ≤ W0.heap.size from hres.lt)
  have HB1 := Lib.hid (bt hb0 hb1)
  have x0 := hbox1.cellQ 0 _ rfl
  have x1 := hbox1.cellQ 1 _ rfl
  have x2 := hbox1.cellQ 2 _ rfl
  have y0 := hbox1.frozen 0
  have y1 := hbox1.frozen 1
  have y2 := hbox1.frozen 2
  clear hW0 hs1 hbox hres hb0 hb1 hbox1 ho1
  go_wp2_with fail
  generalize hwd : World.setCell (World.setCell (World.setCell w1 _ _) _ _) _ _ = wd
  have hsf : setFrom w.heap.size w1 0 [.slice A1 n1 c1, .int .i64 (at_ : Int), .int .i64 0] = wd := by rw [← hwd]; rfl
  have hbx2 := HBX.out.all [.slice A1 n1 c1, .int .i64 (at_ : Int), .int .i64 0] rfl
  have hrs2 := HRES.out.far_setFrom (c := w.heap.size) (by omega) [.slice A1 n1 c1, .int .i64 (at_ : Int), .int .i64 0] 0
  have hbd := below_setFrom (Nat.le_refl _) [.slice A1 n1 c1, .int .i64 (at_ : Int), .int .i64 0] 0 HB1.out
  have ho3 : Own8 wd (w.heap.size + 2) A1 n1 c1 l := by rw [← hsf]; exact ⟨own_setFrom ho2.own (by omega) _ 0, ho2.len, ho2.cap, ho2.max⟩
  rw [hsf] at hbx2 hrs2 hbd
  clear x0 x1 x2 y0 y1 y2 hwd hsf ho2
  have hB2 : w.heap.size + 2 ≤ wd.heap.size := hrs2.lt
  have HBX2 := Lib.hid hbx2
  have HRS2 := Lib.hid hrs2
  have HBD := Lib.hid hbd
  clear hbx2 hrs2 hbd HRES HBX HB1
  refine (HC.out wd A1 c1 ho3.bs).mono ?_
  rintro e w2 ⟨he, hb2⟩
  have hbx3 := HBX2.out.belowS hb2 (Nat.le_refl _)
  have hrs3 := HRS2.out.belowS hb2 (Nat.le_refl _)
  have HBX3 := Lib.hid hbx3
  have HRS3 := Lib.hid hrs3
  have HB3 := Lib.hid (bt HBD.out hb2)
  have ho4 := ho3.keep hb2
  have x0 := hbx3.cellQ 0 _ rfl
  have x1 := hbx3.cellQ 1 _ rfl
  have x2 := hbx3.cellQ 2 _ rfl
  have y1 := hbx3.frozen 1
  have y2 := hbx3.frozen 2
  have v0 := hrs3.cellQ 0 _ rfl
  have v1 := hrs3.cellQ 1 _ rfl
  have v2 := hrs3.cellQ 2 _ rfl
  have z0 := hrs3.frozen 0
  have z1 := hrs3.frozen 1
  have z2 := hrs3.frozen 2
  clear hb2 hbx3 hrs3
  subst he
  go_wp2
  generalize hwf : World.setCell (World.setCell (World.setCell (World.setCell w2 _ _) _ _) _ _) _ _ = wf
  have hsf : setFrom (w.heap.size + 1) (w2.setCell ⟨w.heap.size, 1, none⟩ (.int .i64 ((at_ : Int) + (k : Int)))) 0 [.slice A1 n1 c1, .int .i64 ((at_ : Int) + (k : Int)), .int .i64 0] = wf := by rw [← hwf]; rfl
  have hrow := (HRS3.out.far w.heap.size 1 (.int .i64 ((at_ : Int) + (k : Int))) (by omega)).all [.slice A1 n1 c1, .int .i64 ((at_ : Int) + (k : Int)), .int .i64 0] rfl
  rw [hsf] at hrow
  have r0 := hrow.cellQ 0 _ rfl
  have r1 := hrow.cellQ 1 _ rfl
  have r2 := hrow.cellQ 2 _ rfl
  refine bodyPost_ret (v := .tuple #[rv A1 n1 c1 ((at_ : Int) + (k : Int)) 0, sv v]) (by simp [results, Tryz.results69, go_sem, r0, r1, r2]) rfl ?_
  have hown : Own8 wf w.heap.size A1 n1 c1 l := by rw [← hsf]; exact ⟨own_base (own_setFrom (own_setFrom ho4.own (by omega) [_] 1) (by omega) _ 0) (by omega), ho4.len, ho4.cap, ho4.max⟩
  have hbel : Below w.heap.size w wf := by rw [← hsf]; exact below_setFrom (by omega) _ 0 (HB3.out.setCell (Nat.le_refl _) _)
  refine ⟨A1, c1, hown, hbel, ?_⟩
  rw [HG.out]
  show _ = _
  simp
 | error x =>
  rw [hg] at hcall
  have hx := getText_err hg
  have HC := Lib.hid hcall
  have HG := Lib.hid hg
  clear hcall hg
  have b1 : ((x : Int) == 0) = false := beq_eq_false_iff_ne.2 (by omega)
  have HX := Lib.hid hx
  clear hx
  go_enter Tryz.func69, Tryz.ntmps69
  go_wp2_with fail
  obtain ⟨W0, hW0⟩ : ∃ W, (w.alloc (.cells #[.slice A n c, .int .i64 (at_ : Int), .int .i64 0] 113)).alloc (.cells #[.slice none 0 0, .int .i64 0, .int .i64 0] 113) = W := ⟨_, rfl⟩
  have hs1 : (w.alloc (.cells #[.slice A n c, .int .i64 (at_ : Int), .int .i64 0] 113)).heap.size = w.heap.size + 1 := by unfold World.alloc; simp
  have hbox : Row W0 w.heap.size #[.slice A n c, .int .i64 (at_ : Int), .int .i64 0] 113 := by rw [← hW0]; exact (row_new w _ _).alloc _
  have hres : Row W0 (w.heap.size + 1) #[.slice none 0 0, .int .i64 0, .int .i64 0] 113 := by rw [← hW0, ← hs1]; exact row_new _ _ _
  have hb0 : Below w.heap.size w W0 := by rw [← hW0]; exact ((Below.refl _ w).alloc (Nat.le_refl _) _).alloc (by rw [hs1]; omega) _
  rw [hW0]
  refine (start_ok A n c at_ l W0 (h.keep hb0) (by omega) hat).mono ?_
  rintro e w1 ⟨A1, n1, c1, rfl, ho1, hb1⟩
  have hn1 : n1 = n := by have a := ho1.len; have b := h.len; omega
  subst hn1
  have hbox1 := hbox.belowS hb1 (Nat.le_refl _)
  have HRES := Lib.hid (hres.belowS hb1 (Nat.le_refl _))
  have HBX := Lib.hid hbox1
  have ho2 := ho1.base (show w.heap.size + 2 ≤ W0.heap.size from hres.lt)
  have HB1 := Lib.hid (bt hb0 hb1)
  have x0 := hbox1.cellQ 0 _ rfl
  have x1 := hbox1.cellQ 1 _ rfl
  have x2 := hbox1.cellQ 2 _ rfl
  have y0 := hbox1.frozen 0
  have y1 := hbox1.frozen 1
  have y2 := hbox1.frozen 2
  clear hW0 hs1 hbox hres hb0 hb1 hbox1 ho1
  go_wp2_with fail
  generalize hwd : World.setCell (World.setCell (World.setCell w1 _ _) _ _) _ _ = wd
  have hsf : setFrom w.heap.size w1 0 [.slice A1 n1 c1, .int .i64 (at_ : Int), .int .i64 0] = wd := by rw [← hwd]; rfl
  have hbx2 := HBX.out.all [.slice A1 n1 c1, .int .i64 (at_ : Int), .int .i64 0] rfl
  have hrs2 := HRES.out.far_setFrom (c := w.heap.size) (by omega) [.slice A1 n1 c1, .int .i64 (at_ : Int), .int .i64 0] 0
  have hbd := below_setFrom (Nat.le_refl _) [.slice A1 n1 c1, .int .i64 (at_ : Int), .int .i64 0] 0 HB1.out
  have ho3 : Own8 wd (w.heap.size + 2) A1 n1 c1 l := by rw [← hsf]; exact ⟨own_setFrom ho2.own (by omega) _ 0, ho2.len, ho2.cap, ho2.max⟩
  rw [hsf] at hbx2 hrs2 hbd
  clear x0 x1 x2 y0 y1 y2 hwd hsf ho2
  have hB2 : w.heap.size + 2 ≤ wd.heap.size := hrs2.lt
  have HBX2 := Lib.hid hbx2
  have HRS2 := Lib.hid hrs2
  have HBD := Lib.hid hbd
  clear hbx2 hrs2 hbd HRES HBX HB1
  refine (HC.out wd A1 c1 ho3.bs).mono ?_
  rintro e w2 ⟨he, hb2⟩
  have hbx3 := HBX2.out.belowS hb2 (Nat.le_refl _)
  have hrs3 := HRS2.out.belowS hb2 (Nat.le_refl _)
  have HBX3 := Lib.hid hbx3
  have HRS3 := Lib.hid hrs3
  have HB3 := Lib.hid (bt HBD.out hb2)
  have ho4 := ho3.keep hb2
  have x0 := hbx3.cellQ 0 _ rfl
  have x1 := hbx3.cellQ 1 _ rfl
  have x2 := hbx3.cellQ 2 _ rfl
  have y1 := hbx3.frozen 1
  have y2 := hbx3.frozen 2
  have v0 := hrs3.cellQ 0 _ rfl
  have v1 := hrs3.cellQ 1 _ rfl
  have v2 := hrs3.cellQ 2 _ rfl
  have z0 := hrs3.frozen 0
  have z1 := hrs3.frozen 1
  have z2 := hrs3.frozen 2
  clear hb2 hbx3 hrs3
  subst he
  go_wp2
  generalize hwf : World.setCell (World.setCell (World.setCell (World.setCell w2 _ _) _ _) _ _) _ _ = wf
  have hsf : setFrom (w.heap.size + 1) (w2.setCell ⟨w.heap.size, 2, none⟩ (.int .i64 ((x : Int)))) 0 [.slice A1 n1 c1, .int .i64 ((at_ : Int)), .int .i64 (x : Int)] = wf := by rw [← hwf]; rfl
  have hrow := (HRS3.out.far w.heap.size 2 (.int .i64 ((x : Int))) (by omega)).all [.slice A1 n1 c1, .int .i64 ((at_ : Int)), .int .i64 (x : Int)] rfl
  rw [hsf] at hrow
  have r0 := hrow.cellQ 0 _ rfl
  have r1 := hrow.cellQ 1 _ rfl
  have r2 := hrow.cellQ 2 _ rfl
  refine bodyPost_ret (v := .tuple #[rv A1 n1 c1 ((at_ : Int)) (x : Int), .string { data := #[] }]) (by simp [results, Tryz.results69, go_sem, r0, r1, r2]) rfl ?_
  have hown : Own8 wf w.heap.size A1 n1 c1 l := by rw [← hsf]; exact ⟨own_base (own_setFrom (own_setFrom ho4.own (by omega) [_] 2) (by omega) _ 0) (by omega), ho4.len, ho4.cap, ho4.max⟩
  have hbel : Below w.heap.size w wf := by rw [← hsf]; exact below_setFrom (by omega) _ 0 (HB3.out.setCell (Nat.le_refl _) _)
  refine ⟨A1, c1, hown, hbel, ?_⟩
  rw [HG.out]
  exact rfl
end Go.Proofs.YteoledjllpgcbaaGreatDoor
