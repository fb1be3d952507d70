/- Between, of the package seal. No statement of the seat is proved here. -/
import Derived.Test.YtcnjpcmadkkhfaaDoorSeal6
namespace Go.Proofs.YtcnjpcmadkkhfaaDoor
set_option linter.unusedVariables false
open Go.RowKit

/-- What Between tells: the clash, and both lists anew; or nothing. -/
def BetweenPost (n m : Nat) (a b : List UInt8) (w : World) (e : Ending) (w' : World) : Prop :=
  ∃ A c B k, Below w.heap.size w w' ∧ e = .returned (.tuple #[.agg #[.slice A n c, .slice B m k], .bool true]) ∧ Rd w' w'.heap.size A (a.map bv) ∧ n ≤ c ∧ c ≤ maxLen ∧ Rd w' w'.heap.size B (b.map bv) ∧ m ≤ k ∧ k ≤ maxLen
def NonePost (w : World) (e : Ending) (w' : World) : Prop := e = .returned (.tuple #[.agg #[.slice none 0 0, .slice none 0 0], .bool false]) ∧ Below w.heap.size w w'
set_option maxRecDepth 100000 in
set_option maxHeartbeats 4000000 in
theorem between_yes (A : Option Addr) (n c : Nat) (B : Option Addr) (m k : Nat) (a b : List UInt8) (w : World) (hA : Rd w w.heap.size A (a.map bv)) (hl : a.length = n) (hc : n ≤ c) (hm : c ≤ maxLen) (hn : n ≤ 1000000)
    (hB : Rd w w.heap.size B (b.map bv)) (hr : b.length = m) (hk : m ≤ k) (hk2 : k ≤ maxLen) (hn2 : m ≤ 1000000) (ht : Tabs w) (hyes : clashB a b = true) :
    Calls Tryd.prog 36 #[.slice A n c, .slice B m k] w (BetweenPost n m a b w) := by
  have c1 := fun (W : World) (h : Below w.heap.size w W) => clone_any A n c a W (hA.below' h (Nat.le_refl _) |>.more h.size) hl hc hm (by omega)
  have c2 := fun (W : World) (h : Below w.heap.size w W) => clone_any B m k b W (hB.below' h (Nat.le_refl _) |>.more h.size) hr hk hk2 (by omega)
  have C1 := Lib.hid c1
  have C2 := Lib.hid c2
  have HT := Lib.hid ht
  have HY := Lib.hid hyes
  have HL := Lib.hid (And.intro hl hr)
  clear c1 c2 hA hB hl hr hc hm hk hk2 ht hyes
  go_enter Tryd.func36, Tryd.ntmps36
  go_wp2_with fail
  refine (C1.out _ ((Below.refl _ w).alloc (Nat.le_refl _) _)).mono ?_
  rintro e w1 ⟨A1, c1, rfl, hr1, hc1, hc1', hb1⟩
  have hres := Row.belowS (row_new w _ _) hb1 (Nat.le_refl _)
  have HB1 := Lib.hid (bt ((Below.refl _ w).alloc (Nat.le_refl _) _) hb1)
  have HRES := Lib.hid hres
  have ho1 := own_base hr1 (show w.heap.size + 1 ≤ _ by unfold World.alloc; simp)
  have HR1 := Lib.hid (And.intro ho1 (And.intro hc1 hc1'))
  clear hr1 ho1 hc1 hc1' hb1 hres
  go_wp2_with fail
  refine (C2.out _ HB1.out).mono ?_
  rintro e w2 ⟨B1, k1, rfl, hr2, hk1, hk1', hb2⟩
  have HB2 := Lib.hid (bt HB1.out hb2)
  have HRES2 := Lib.hid (Row.belowS HRES.out hb2 (Nat.le_refl _))
  have ho2 := own_base hr2 (show w.heap.size + 1 ≤ w1.heap.size from HRES.out.lt)
  have HR2 := Lib.hid (And.intro (own_keep HR1.out.1 hb2 (Nat.le_refl _)) (And.intro ho2 (And.intro hk1 hk1')))
  clear hr2 ho2 hk1 hk1' hb2
  go_wp2_with fail
  have hb3 : Below w2.heap.size w2 (w2.alloc (.cells #[.slice A1 n c1, .slice B1 m k1] 53)) := (Below.refl _ w2).alloc (Nat.le_refl _) _
  refine Calls.mono (show Calls Tryd.prog 38 #[.agg #[.slice A1 n c1, .slice B1 m k1]] (w2.alloc (.cells #[.slice A1 n c1, .slice B1 m k1] 53)) (BoolPost (clashB a b) _) from is_any A1 n c1 B1 m k1 a b _ (((Rd.of_own HR2.out.1).below' hb3 (Nat.le_refl _)).more hb3.size) HL.out.1 HR1.out.2.1 HR1.out.2.2 hn (((Rd.of_own HR2.out.2.1).below' hb3 (Nat.le_refl _)).more hb3.size) HL.out.2 HR2.out.2.2.1 HR2.out.2.2.2 hn2 (HT.out.below (bt HB2.out hb3))) ?_
  rintro e w4 ⟨rfl, hb4⟩
  rw [HY.out]
  have hb24 := bt hb3 hb4
  have HB4 := Lib.hid (bt HB2.out hb24)
  have hbox := Row.belowS (row_new w2 _ _) hb4 (Nat.le_refl _)
  have hres := Row.belowS HRES2.out hb24 (Nat.le_refl _)
  have x0 := hres.cellQ 0 _ rfl
  have x1 := hres.cellQ 1 _ rfl
  have z0 := hres.frozen 0
  have z1 := hres.frozen 1
  have y0 := hbox.cellQ 0 _ rfl
  have y1 := hbox.cellQ 1 _ rfl
  have hrow : ∀ u v, Row (setFrom w.heap.size w4 0 [u, v]) w.heap.size #[u, v] 53 := fun u v => hres.all [u, v] rfl
  have HROW := Lib.hid hrow
  have HR4 := Lib.hid (And.intro (own_keep HR2.out.1 hb24 (Nat.le_refl _)) (own_keep HR2.out.2.1 hb24 (Nat.le_refl _)))
  clear hbox hres hb4 hb24 hb3 hrow
  go_wp2
  generalize hwd : World.setCell (World.setCell w4 _ _) _ _ = wd
  have hsf : setFrom w.heap.size w4 0 [.slice A1 n c1, .slice B1 m k1] = wd := by rw [← hwd]; rfl
  have r0 : wd.cell? ⟨w.heap.size, 0, none⟩ = some (.slice A1 n c1) := by rw [← hsf]; exact (HROW.out _ _).cellQ 0 _ rfl
  have r1 : wd.cell? ⟨w.heap.size, 1, none⟩ = some (.slice B1 m k1) := by rw [← hsf]; exact (HROW.out _ _).cellQ 1 _ rfl
  refine bodyPost_ret (v := .tuple #[.agg #[.slice A1 n c1, .slice B1 m k1], .bool true]) (by simp [results, Tryd.results36, go_sem, r0, r1]) rfl ?_
  refine ⟨A1, c1, B1, k1, ?_, rfl, ?_, HR1.out.2.1, HR1.out.2.2, ?_, HR2.out.2.2.1, HR2.out.2.2.2⟩
  · rw [← hsf]; exact below_setFrom (Nat.le_refl _) _ 0 HB4.out
  · rw [← hsf]; exact Rd.of_own (own_setFrom HR4.out.1 (Nat.lt_succ_self _) _ 0)
  · rw [← hsf]; exact Rd.of_own (own_setFrom HR4.out.2 (Nat.lt_succ_self _) _ 0)
set_option maxRecDepth 100000 in
set_option maxHeartbeats 4000000 in
theorem between_no (A : Option Addr) (n c : Nat) (B : Option Addr) (m k : Nat) (a b : List UInt8) (w : World) (hA : Rd w w.heap.size A (a.map bv)) (hl : a.length = n) (hc : n ≤ c) (hm : c ≤ maxLen) (hn : n ≤ 1000000)
    (hB : Rd w w.heap.size B (b.map bv)) (hr : b.length = m) (hk : m ≤ k) (hk2 : k ≤ maxLen) (hn2 : m ≤ 1000000) (ht : Tabs w) (hyes : clashB a b = false) :
    Calls Tryd.prog 36 #[.slice A n c, .slice B m k] w (NonePost w) := by
  have c1 := fun (W : World) (h : Below w.heap.size w W) => clone_any A n c a W (hA.below' h (Nat.le_refl _) |>.more h.size) hl hc hm (by omega)
  have c2 := fun (W : World) (h : Below w.heap.size w W) => clone_any B m k b W (hB.below' h (Nat.le_refl _) |>.more h.size) hr hk hk2 (by omega)
  have C1 := Lib.hid c1
  have C2 := Lib.hid c2
  have HT := Lib.hid ht
  have HY := Lib.hid hyes
  have HL := Lib.hid (And.intro hl hr)
  clear c1 c2 hA hB hl hr hc hm hk hk2 ht hyes
  go_enter Tryd.func36, Tryd.ntmps36
  go_wp2_with fail
  refine (C1.out _ ((Below.refl _ w).alloc (Nat.le_refl _) _)).mono ?_
  rintro e w1 ⟨A1, c1, rfl, hr1, hc1, hc1', hb1⟩
  have hres := Row.belowS (row_new w _ _) hb1 (Nat.le_refl _)
  have HB1 := Lib.hid (bt ((Below.refl _ w).alloc (Nat.le_refl _) _) hb1)
  have HRES := Lib.hid hres
  have ho1 := own_base hr1 (show w.heap.size + 1 ≤ _ by unfold World.alloc; simp)
  have HR1 := Lib.hid (And.intro ho1 (And.intro hc1 hc1'))
  clear hr1 ho1 hc1 hc1' hb1 hres
  go_wp2_with fail
  refine (C2.out _ HB1.out).mono ?_
  rintro e w2 ⟨B1, k1, rfl, hr2, hk1, hk1', hb2⟩
  have HB2 := Lib.hid (bt HB1.out hb2)
  have HRES2 := Lib.hid (Row.belowS HRES.out hb2 (Nat.le_refl _))
  have ho2 := own_base hr2 (show w.heap.size + 1 ≤ w1.heap.size from HRES.out.lt)
  have HR2 := Lib.hid (And.intro (own_keep HR1.out.1 hb2 (Nat.le_refl _)) (And.intro ho2 (And.intro hk1 hk1')))
  clear hr2 ho2 hk1 hk1' hb2
  go_wp2_with fail
  have hb3 : Below w2.heap.size w2 (w2.alloc (.cells #[.slice A1 n c1, .slice B1 m k1] 53)) := (Below.refl _ w2).alloc (Nat.le_refl _) _
  refine Calls.mono (show Calls Tryd.prog 38 #[.agg #[.slice A1 n c1, .slice B1 m k1]] (w2.alloc (.cells #[.slice A1 n c1, .slice B1 m k1] 53)) (BoolPost (clashB a b) _) from is_any A1 n c1 B1 m k1 a b _ (((Rd.of_own HR2.out.1).below' hb3 (Nat.le_refl _)).more hb3.size) HL.out.1 HR1.out.2.1 HR1.out.2.2 hn (((Rd.of_own HR2.out.2.1).below' hb3 (Nat.le_refl _)).more hb3.size) HL.out.2 HR2.out.2.2.1 HR2.out.2.2.2 hn2 (HT.out.below (bt HB2.out hb3))) ?_
  rintro e w4 ⟨rfl, hb4⟩
  rw [HY.out]
  have hb24 := bt hb3 hb4
  have HB4 := Lib.hid (bt HB2.out hb24)
  have hbox := Row.belowS (row_new w2 _ _) hb4 (Nat.le_refl _)
  have hres := Row.belowS HRES2.out hb24 (Nat.le_refl _)
  have x0 := hres.cellQ 0 _ rfl
  have x1 := hres.cellQ 1 _ rfl
  have z0 := hres.frozen 0
  have z1 := hres.frozen 1
  have y0 := hbox.cellQ 0 _ rfl
  have y1 := hbox.cellQ 1 _ rfl
  have hrow : ∀ u v, Row (setFrom w.heap.size w4 0 [u, v]) w.heap.size #[u, v] 53 := fun u v => hres.all [u, v] rfl
  have HROW := Lib.hid hrow
  have HR4 := Lib.hid (And.intro (own_keep HR2.out.1 hb24 (Nat.le_refl _)) (own_keep HR2.out.2.1 hb24 (Nat.le_refl _)))
  clear hbox hres hb4 hb24 hb3 hrow
  go_wp2
  generalize hwd : World.setCell (World.setCell w4 _ _) _ _ = wd
  have hsf : setFrom w.heap.size w4 0 [.slice none 0 0, .slice none 0 0] = wd := by rw [← hwd]; rfl
  have r0 : wd.cell? ⟨w.heap.size, 0, none⟩ = some (.slice none 0 0) := by rw [← hsf]; exact (HROW.out _ _).cellQ 0 _ rfl
  have r1 : wd.cell? ⟨w.heap.size, 1, none⟩ = some (.slice none 0 0) := by rw [← hsf]; exact (HROW.out _ _).cellQ 1 _ rfl
  refine bodyPost_ret (v := .tuple #[.agg #[.slice none 0 0, .slice none 0 0], .bool false]) (by simp [results, Tryd.results36, go_sem, r0, r1]) rfl ?_
  refine ⟨rfl, ?_⟩
  rw [← hsf]; exact below_setFrom (Nat.le_refl _) _ 0 HB4.out
theorem node_no2 (l r : List UInt8) (w : World) (hl : l.length = 32) (hr : ¬ r.length = 32) : Calls Tryd.prog 34 #[sv l, sv r] w fun e w' => e = .returned (.tuple #[.string { data := #[] }, .int .i64 1]) ∧ w = w' := by
  obtain ⟨n, hn⟩ : ∃ n, r.length = n := ⟨_, rfl⟩
  have z1 : (str l).size = 32 := by rw [str_size]; exact hl
  have z2 : (str r).size = n := by rw [str_size]; exact hn
  rw [hn] at hr
  clear hn hl
  have h2 : ((n : Int) == 32) = false := by simpa using (by omega : ¬ (n : Int) = 32)
  go_enter Tryd.func34, Tryd.ntmps34
  go_wp2
  go_ret2
  exact ⟨rfl, rfl⟩
theorem run_neq_str {P : Program} {w : World} (T : TypeId) (a b : List UInt8) : (binOp .neq T (.string (str a)) (.string (str b))).run P w = .ok (.bool (!decide (a = b))) w := by
  rw [binOp_string_neq, str_toList, str_toList, Sem.run_pure]
  congr 3
  by_cases h : a = b <;> simp [h]
end Go.Proofs.YtcnjpcmadkkhfaaDoor
