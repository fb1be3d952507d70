/- MClashA: several texts of this claim in one file. No statement of the seat is proved here. -/
import Derived.Test.YteoledjllpgcbaaGreatDoorMClash
import Derived.Test.YteoledjllpgcbaaGreatDoorMSealA
import Derived.Test.YteoledjllpgcbaaGreatDoorMTreeC
import Derived.Deep.OwnRows
import Derived.Laws.EntriesVeiled
namespace Go.Proofs.YteoledjllpgcbaaGreatDoor
set_option maxRecDepth 100000
set_option maxHeartbeats 64000000
set_option linter.unusedVariables false
open Go.RowKit
theorem wl_callv' {P : Program} {ops : Array Oper} {rest : List Oper} {o : Oper} {a : Act} {Q : Exit → Act → World → Prop} {w : World} (hgd : o.guard = none) {t : Tmp} {xs : Array Operand} {ts : Array TypeId} (ho : o.op = .call { callee := .value (.tmp t), args := xs, argTypes := ts })
  {f : FuncId} {caps : Array Value} {fn : Func} (hv : a.eval (.tmp t) = .func (.func f) #[] caps) (hfn : P.funcs[f]? = some fn) (hname : (fn.name == "runtime.NumGoroutine") = false) (hbody : fn.body.isNone = false) {args : Array Value} (hx : xs.map a.eval = args)
  (hc : Calls P f (args ++ caps) w fun e w' => ∃ v, e = .returned v ∧ wpList P ops Q rest (a.put o.dst v) w' ∧ Below w.heap.size w w') : wpList P ops Q (o :: rest) a w := by
 refine wpList_plain hgd fun K hK => Free.wp_of_step (V := fun v w' => wpList P ops Q rest (a.put o.dst v) w') ?_ fun v w' h _ => hK _ _ h
 have hr : ((execOp a.eval o).run P w) = .ok (.enter f (args ++ caps)) w := by
  have hn : ¬ fn.name = "runtime.NumGoroutine" := by simpa using hname
  have hb : ¬ fn.body = none := fun e => by rw [e] at hbody; cases hbody
  have h1 : (callFunc f (args ++ caps)).run P w = .ok (.enter f (args ++ caps)) w := by simp [callFunc, hfn, hn, hb]
  simp [execOp, ho, hx, hv, resolve, invoke, Deferred.ofValue, h1]
 rw [hr]
 exact ⟨Below.refl _ _, hc⟩
def Free.kB (B : Nat) (l : List UInt8) : Free.SV := ⟨fun v w => ∃ A n c, v = .slice A n c ∧ Own8 w B A n c l, fun v w w' ⟨A, n, c, h1, h2⟩ g => ⟨A, n, c, h1, h2.keep g⟩⟩
structure Fr (w : World) (L : Nat) (A : Option Addr) (n c : Nat) (l : List UInt8) : Prop where
 rd : Rd w w.heap.size A (l.map bv)
 low : l ≠ [] → ∃ b off, A = some ⟨b, off, none⟩ ∧ L ≤ b
 len : l.length = n
 cap : n ≤ c
 max : c ≤ maxLen
section
variable {w w' : World} {L L' n c : Nat} {A : Option Addr} {l : List UInt8}
theorem Fr.keep (h : Fr w L A n c l) (hb : Below w.heap.size w w') : Fr w' L A n c l := ⟨(h.rd.below' hb (Nat.le_refl _)).more hb.size, h.low, h.len, h.cap, h.max⟩
theorem Fr.base (h : Fr w L A n c l) (hL : L' ≤ L) : Fr w L' A n c l := ⟨h.rd, fun hl => by obtain ⟨b, off, e, hb⟩ := h.low hl; exact ⟨b, off, e, Nat.le_trans hL hb⟩, h.len, h.cap, h.max⟩
theorem Fr.bs (h : Fr w L A n c l) : Bs w A n c l := ⟨h.rd, h.len, h.cap, h.max⟩
theorem Fr.nil (w : World) (L : Nat) : Fr w L none 0 0 [] := ⟨Rd.nil, fun h => absurd rfl h, rfl, Nat.le_refl _, Nat.zero_le _⟩
theorem Fr.of8 (h : Own8 w L A n c l) : Fr w L A n c l := ⟨Rd.of_own h.own, fun hl => by
 rcases h.own.2 with ⟨hv, h0⟩ | ⟨g, cap, cur, hv, h1, h2, _⟩
 ·
  have := h.len
  rw [h0] at this
  exact absurd (List.length_eq_zero_iff.1 this) hl
 ·
  simp only [Value.slice.injEq, true_and] at hv
  exact ⟨g, 0, hv.1, h1⟩, h.len, h.cap, h.max⟩
theorem Fr.set (h : Fr w L A n c l) {b : Nat} (hb : b < L) (vs : List Value) (k : Nat) : Fr (setFrom b w k vs) L A n c l := by
 refine ⟨fun hn => ?_, h.low, h.len, h.cap, h.max⟩
 obtain ⟨b1, off, rfl, hlt, hc⟩ := h.rd hn
 obtain ⟨b2, off2, e, hL⟩ := h.low (fun e => hn (by rw [e]; rfl))
 simp only [Option.some.injEq, Addr.mk.injEq, and_true] at e
 refine ⟨b1, off, rfl, by rw [size_setFrom]; exact hlt, fun j v hv => ?_⟩
 rw [← hc j v hv]
 exact World.cell?_of_block (heap_setFrom (show b1 ≠ b by omega) vs w k)
end
def cl1 (r : Option (List UInt8 × List UInt8)) : List UInt8 := (r.map (·.1)).getD []
def cl2 (r : Option (List UInt8 × List UInt8)) : List UInt8 := (r.map (·.2)).getD []
def ResPost (L : Nat) (r : Option (List UInt8 × List UInt8)) (w : World) (e : Ending) (w' : World) : Prop :=
 ∃ A n c B m k, e = .returned (.tuple #[.agg #[.slice A n c, .slice B m k], .bool r.isSome]) ∧ Fr w' L A n c (cl1 r) ∧ Fr w' L B m k (cl2 r) ∧ Below w.heap.size w w'
theorem betw_yes (A : Option Addr) (n c : Nat) (B : Option Addr) (m k : Nat) (a b : List UInt8) (w : World) (hA : Rd w w.heap.size A (a.map bv)) (hl : a.length = n) (hc : n ≤ c) (hm : c ≤ maxLen) (hn : n ≤ 1000000)
  (hB : Rd w w.heap.size B (b.map bv)) (hr : b.length = m) (hk : m ≤ k) (hk2 : k ≤ maxLen) (hn2 : m ≤ 1000000) (ht : Tabs w) (hyes : clashB a b = true) :
  Calls Tryz.prog 106 #[.slice A n c, .slice B m k] w (ResPost w.heap.size (Cl.btw a b) w) := by
 have c1 := fun (W : World) (h : Below w.heap.size w W) => clone_any A n c a W (hA.below' h (Nat.le_refl _) |>.more h.size) hl hc hm (by omega)
 have c2 := fun (W : World) (h : Below w.heap.size w W) => clone_any B m k b W (hB.below' h (Nat.le_refl _) |>.more h.size) hr hk hk2 (by omega)
 have C1 := Lib.hid c1
 have C2 := Lib.hid c2
 have HT := Lib.hid ht
 have HY := Lib.hid hyes
 have HL := Lib.hid (And.intro hl hr)
 clear c1 c2 hA hB hl hr hc hm hk hk2 ht hyes
 have HBT := Lib.hid (show Cl.btw a b = some (a, b) by unfold Cl.btw; rw [if_pos HY.out])
 go_enter Tryz.func106, Tryz.ntmps106
 go_wp2_with fail
 refine (C1.out _ ((Below.refl _ w).alloc (Nat.le_refl _) _)).mono ?_
 rintro e w1 ⟨A1, c1, rfl, hr1, hc1, hc1', hb1⟩
 have hres := Row.belowS (row_new w _ _) hb1 (Nat.le_refl _)
 have HB1 := Lib.hid (bt ((Below.refl _ w).alloc (Nat.le_refl _) _) hb1)
 have HRES := Lib.hid hres
 have ho1 := own_base hr1 (show w.heap.size + 1 ≤ _ by unfold World.alloc; simp)
 have HR1 := Lib.hid (And.intro ho1 (And.intro hc1 hc1'))
 clear hr1 ho1 hc1 hc1' hb1 hres
 go_wp2_with fail
 refine (C2.out _ HB1.out).mono ?_
 rintro e w2 ⟨B1, k1, rfl, hr2, hk1, hk1', hb2⟩
 have HB2 := Lib.hid (bt HB1.out hb2)
 have HRES2 := Lib.hid (Row.belowS HRES.out hb2 (Nat.le_refl _))
 have ho2 := own_base hr2 (show w.heap.size + 1 ≤ w1.heap.size from HRES.out.lt)
 have HR2 := Lib.hid (And.intro (own_keep HR1.out.1 hb2 (Nat.le_refl _)) (And.intro ho2 (And.intro hk1 hk1')))
 clear hr2 ho2 hk1 hk1' hb2
 go_wp2_with fail
 have hb3 : Below w2.heap.size w2 (w2.alloc (.cells #[.slice A1 n c1, .slice B1 m k1] 52)) := (Below.refl _ w2).alloc (Nat.le_refl _) _
 refine Calls.mono (show Calls Tryz.prog 22 #[.agg #[.slice A1 n c1, .slice B1 m k1]] (w2.alloc (.cells #[.slice A1 n c1, .slice B1 m k1] 52)) (BoolPost (clashB a b) _) from is_any A1 n c1 B1 m k1 a b _ (((Rd.of_own HR2.out.1).below' hb3 (Nat.le_refl _)).more hb3.size) HL.out.1 HR1.out.2.1 HR1.out.2.2 hn (((Rd.of_own HR2.out.2.1).below' hb3 (Nat.le_refl _)).more hb3.size) HL.out.2 HR2.out.2.2.1 HR2.out.2.2.2 hn2 (HT.out.below (bt HB2.out hb3))) ?_
 rintro e w4 ⟨rfl, hb4⟩
 rw [HY.out]
 have hb24 := bt hb3 hb4
 have HB4 := Lib.hid (bt HB2.out hb24)
 have hbox := Row.belowS (row_new w2 _ _) hb4 (Nat.le_refl _)
 have hres := Row.belowS HRES2.out hb24 (Nat.le_refl _)
 have x0 := hres.cellQ 0 _ rfl
 have x1 := hres.cellQ 1 _ rfl
 have z0 := hres.frozen 0
 have z1 := hres.frozen 1
 have y0 := hbox.cellQ 0 _ rfl
 have y1 := hbox.cellQ 1 _ rfl
 have hrow : ∀ u v, Row (setFrom w.heap.size w4 0 [u, v]) w.heap.size #[u, v] 52 := fun u v => hres.all [u, v] rfl
 have HROW := Lib.hid hrow
 have HR4 := Lib.hid (And.intro (own_keep HR2.out.1 hb24 (Nat.le_refl _)) (own_keep HR2.out.2.1 hb24 (Nat.le_refl _)))
 clear hbox hres hb4 hb24 hb3 hrow
 go_wp2
 generalize hwd : World.setCell (World.setCell w4 _ _) _ _ = wd
 have hsf : setFrom w.heap.size w4 0 [.slice A1 n c1, .slice B1 m k1] = wd := by rw [← hwd]; rfl
 have r0 : wd.cell? ⟨w.heap.size, 0, none⟩ = some (.slice A1 n c1) := by rw [← hsf]; exact (HROW.out _ _).cellQ 0 _ rfl
 have r1 : wd.cell? ⟨w.heap.size, 1, none⟩ = some (.slice B1 m k1) := by rw [← hsf]; exact (HROW.out _ _).cellQ 1 _ rfl
 refine bodyPost_ret (v := .tuple #[.agg #[.slice A1 n c1, .slice B1 m k1], .bool true]) (by simp [results, Tryz.results106, go_sem, r0, r1]) rfl ?_
 rw [HBT.out]
 refine ⟨A1, n, c1, B1, m, k1, rfl, ?_, ?_, ?_⟩
 · rw [← hsf]; exact (Fr.of8 ⟨own_setFrom HR4.out.1 (Nat.lt_succ_self _) _ 0, HL.out.1, HR1.out.2.1, HR1.out.2.2⟩).base (Nat.le_succ _)
 · rw [← hsf]; exact (Fr.of8 ⟨own_setFrom HR4.out.2 (Nat.lt_succ_self _) _ 0, HL.out.2, HR2.out.2.2.1, HR2.out.2.2.2⟩).base (Nat.le_succ _)
 · rw [← hsf]; exact below_setFrom (Nat.le_refl _) _ 0 HB4.out
theorem betw_no (A : Option Addr) (n c : Nat) (B : Option Addr) (m k : Nat) (a b : List UInt8) (w : World) (hA : Rd w w.heap.size A (a.map bv)) (hl : a.length = n) (hc : n ≤ c) (hm : c ≤ maxLen) (hn : n ≤ 1000000)
  (hB : Rd w w.heap.size B (b.map bv)) (hr : b.length = m) (hk : m ≤ k) (hk2 : k ≤ maxLen) (hn2 : m ≤ 1000000) (ht : Tabs w) (hyes : clashB a b = false) :
  Calls Tryz.prog 106 #[.slice A n c, .slice B m k] w (ResPost w.heap.size (Cl.btw a b) w) := by
 have c1 := fun (W : World) (h : Below w.heap.size w W) => clone_any A n c a W (hA.below' h (Nat.le_refl _) |>.more h.size) hl hc hm (by omega)
 have c2 := fun (W : World) (h : Below w.heap.size w W) => clone_any B m k b W (hB.below' h (Nat.le_refl _) |>.more h.size) hr hk hk2 (by omega)
 have C1 := Lib.hid c1
 have C2 := Lib.hid c2
 have HT := Lib.hid ht
 have HY := Lib.hid hyes
 have HL := Lib.hid (And.intro hl hr)
 clear c1 c2 hA hB hl hr hc hm hk hk2 ht hyes
 have HBT := Lib.hid (show Cl.btw a b = none by unfold Cl.btw; rw [if_neg (by rw [HY.out]; decide)])
 go_enter Tryz.func106, Tryz.ntmps106
 go_wp2_with fail
 refine (C1.out _ ((Below.refl _ w).alloc (Nat.le_refl _) _)).mono ?_
 rintro e w1 ⟨A1, c1, rfl, hr1, hc1, hc1', hb1⟩
 have hres := Row.belowS (row_new w _ _) hb1 (Nat.le_refl _)
 have HB1 := Lib.hid (bt ((Below.refl _ w).alloc (Nat.le_refl _) _) hb1)
 have HRES := Lib.hid hres
 have ho1 := own_base hr1 (show w.heap.size + 1 ≤ _ by unfold World.alloc; simp)
 have HR1 := Lib.hid (And.intro ho1 (And.intro hc1 hc1'))
 clear hr1 ho1 hc1 hc1' hb1 hres
 go_wp2_with fail
 refine (C2.out _ HB1.out).mono ?_
 rintro e w2 ⟨B1, k1, rfl, hr2, hk1, hk1', hb2⟩
 have HB2 := Lib.hid (bt HB1.out hb2)
 have HRES2 := Lib.hid (Row.belowS HRES.out hb2 (Nat.le_refl _))
 have ho2 := own_base hr2 (show w.heap.size + 1 ≤ w1.heap.size from HRES.out.lt)
 have HR2 := Lib.hid (And.intro (own_keep HR1.out.1 hb2 (Nat.le_refl _)) (And.intro ho2 (And.intro hk1 hk1')))
 clear hr2 ho2 hk1 hk1' hb2
 go_wp2_with fail
 have hb3 : Below w2.heap.size w2 (w2.alloc (.cells #[.slice A1 n c1, .slice B1 m k1] 52)) := (Below.refl _ w2).alloc (Nat.le_refl _) _
 refine Calls.mono (show Calls Tryz.prog 22 #[.agg #[.slice A1 n c1, .slice B1 m k1]] (w2.alloc (.cells #[.slice A1 n c1, .slice B1 m k1] 52)) (BoolPost (clashB a b) _) from is_any A1 n c1 B1 m k1 a b _ (((Rd.of_own HR2.out.1).below' hb3 (Nat.le_refl _)).more hb3.size) HL.out.1 HR1.out.2.1 HR1.out.2.2 hn (((Rd.of_own HR2.out.2.1).below' hb3 (Nat.le_refl _)).more hb3.size) HL.out.2 HR2.out.2.2.1 HR2.out.2.2.2 hn2 (HT.out.below (bt HB2.out hb3))) ?_
 rintro e w4 ⟨rfl, hb4⟩
 rw [HY.out]
 have hb24 := bt hb3 hb4
 have HB4 := Lib.hid (bt HB2.out hb24)
 have hbox := Row.belowS (row_new w2 _ _) hb4 (Nat.le_refl _)
 have hres := Row.belowS HRES2.out hb24 (Nat.le_refl _)
 have x0 := hres.cellQ 0 _ rfl
 have x1 := hres.cellQ 1 _ rfl
 have z0 := hres.frozen 0
 have z1 := hres.frozen 1
 have y0 := hbox.cellQ 0 _ rfl
 have y1 := hbox.cellQ 1 _ rfl
 have hrow : ∀ u v, Row (setFrom w.heap.size w4 0 [u, v]) w.heap.size #[u, v] 52 := fun u v => hres.all [u, v] rfl
 have HROW := Lib.hid hrow
 have HR4 := Lib.hid (And.intro (own_keep HR2.out.1 hb24 (Nat.le_refl _)) (own_keep HR2.out.2.1 hb24 (Nat.le_refl _)))
 clear hbox hres hb4 hb24 hb3 hrow
 go_wp2
 generalize hwd : World.setCell (World.setCell w4 _ _) _ _ = wd
 have hsf : setFrom w.heap.size w4 0 [.slice none 0 0, .slice none 0 0] = wd := by rw [← hwd]; rfl
 have r0 : wd.cell? ⟨w.heap.size, 0, none⟩ = some (.slice none 0 0) := by rw [← hsf]; exact (HROW.out _ _).cellQ 0 _ rfl
 have r1 : wd.cell? ⟨w.heap.size, 1, none⟩ = some (.slice none 0 0) := by rw [← hsf]; exact (HROW.out _ _).cellQ 1 _ rfl
 refine bodyPost_ret (v := .tuple #[.agg #[.slice none 0 0, .slice none 0 0], .bool false]) (by simp [results, Tryz.results106, go_sem, r0, r1]) rfl ?_
 rw [HBT.out]
 exact ⟨none, 0, 0, none, 0, 0, rfl, Fr.nil _ _, Fr.nil _ _, by rw [← hsf]; exact below_setFrom (Nat.le_refl _) _ 0 HB4.out⟩
theorem betw_any (A : Option Addr) (n c : Nat) (B : Option Addr) (m k : Nat) (a b : List UInt8) (w : World) (hA : Bs w A n c a) (hn : n ≤ 1000000) (hB : Bs w B m k b) (hn2 : m ≤ 1000000) (ht : Tabs w) :
  Calls Tryz.prog 106 #[.slice A n c, .slice B m k] w (ResPost w.heap.size (Cl.btw a b) w) := by
 cases h : clashB a b with
 | true => exact betw_yes A n c B m k a b w hA.rd hA.len hA.cap hA.max hn hB.rd hB.len hB.cap hB.max hn2 ht h
 | false => exact betw_no A n c B m k a b w hA.rd hA.len hA.cap hA.max hn hB.rd hB.len hB.cap hB.max hn2 ht h
structure Try (w : World) (v : Value) (r : Option (List UInt8 × List UInt8)) : Prop where
 ex : ∃ (f : FuncId) (caps : Array Value) (fn : Func), v = .func (.func f) #[] caps ∧ Tryz.prog.funcs[f]? = some fn ∧ (fn.name == "runtime.NumGoroutine") = false ∧ fn.body.isNone = false ∧ ∀ W, Below w.heap.size w W → Calls Tryz.prog f caps W (ResPost W.heap.size r W)
theorem pair1_any (g1 g2 : Nat) (A : Option Addr) (n c : Nat) (B : Option Addr) (m k : Nat) (a b : List UInt8) (w : World) (hg1 : g1 < w.heap.size) (hg2 : g2 < w.heap.size) (y0 : w.cell? ⟨g1, 0, none⟩ = some (.slice A n c)) (y1 : w.cell? ⟨g2, 0, none⟩ = some (.slice B m k))
  (hA : Bs w A n c a) (hn : n ≤ 1000000) (hB : Bs w B m k b) (hn2 : m ≤ 1000000) (ht : Tabs w) :
  Calls Tryz.prog 131 #[.pointer (some ⟨g1, 0, none⟩), .pointer (some ⟨g2, 0, none⟩)] w (ResPost w.heap.size (Cl.btw a b) w) := by
 have HB0 := Lib.hid (show Below w.heap.size w (w.alloc (.cells #[.slice none 0 0, .slice none 0 0] 52)) from (Below.refl _ w).alloc (Nat.le_refl _) _)
 have hbt := betw_any A n c B m k a b (w.alloc (.cells #[.slice none 0 0, .slice none 0 0] 52)) (hA.keep HB0.out) hn (hB.keep HB0.out) hn2 (ht.below HB0.out)
 have HBT := Lib.hid hbt
 have z0 := HB0.out.cell (p := ⟨g1, 0, none⟩) hg1 |>.trans y0
 have z1 := HB0.out.cell (p := ⟨g2, 0, none⟩) hg2 |>.trans y1
 have HROW0 := Lib.hid (row_new w #[.slice none 0 0, .slice none 0 0] 52)
 clear hbt hA hB ht hg1 hg2
 go_enter Tryz.func131, Tryz.ntmps131
 go_wp2_with fail
 refine HBT.out.mono ?_
 rintro e w4 ⟨A1, n1, c1, B1, m1, k1, rfl, hf1, hf2, hb4⟩
 have hres := Row.belowS HROW0.out hb4 (Nat.le_refl _)
 have x0 := hres.cellQ 0 _ rfl
 have x1 := hres.cellQ 1 _ rfl
 have f0 := hres.frozen 0
 have f1 := hres.frozen 1
 have HROW := Lib.hid (show ∀ u v, Row (setFrom w.heap.size w4 0 [u, v]) w.heap.size #[u, v] 52 from fun u v => hres.all [u, v] rfl)
 have HF := Lib.hid (And.intro hf1 hf2)
 have HB4 := Lib.hid (bt HB0.out hb4)
 clear hres hf1 hf2 hb4
 go_wp2
 generalize hwd : World.setCell (World.setCell w4 _ _) _ _ = wd
 have hsf : setFrom w.heap.size w4 0 [.slice A1 n1 c1, .slice B1 m1 k1] = wd := by rw [← hwd]; rfl
 have r0 : wd.cell? ⟨w.heap.size, 0, none⟩ = some (.slice A1 n1 c1) := by rw [← hsf]; exact (HROW.out _ _).cellQ 0 _ rfl
 have r1 : wd.cell? ⟨w.heap.size, 1, none⟩ = some (.slice B1 m1 k1) := by rw [← hsf]; exact (HROW.out _ _).cellQ 1 _ rfl
 refine bodyPost_ret (v := .tuple #[.agg #[.slice A1 n1 c1, .slice B1 m1 k1], .bool (Cl.btw a b).isSome]) (by simp [results, Tryz.results131, go_sem, r0, r1]) rfl ?_
 have hlt : w.heap.size < (w.alloc (.cells #[.slice none 0 0, .slice none 0 0] 52)).heap.size := by unfold World.alloc; simp
 exact ⟨A1, n1, c1, B1, m1, k1, rfl, by rw [← hsf]; exact (HF.out.1.set hlt _ 0).base (Nat.le_of_lt hlt), by rw [← hsf]; exact (HF.out.2.set hlt _ 0).base (Nat.le_of_lt hlt), by rw [← hsf]; exact below_setFrom (Nat.le_refl _) _ 0 HB4.out⟩
def firstOf (rs : List (Option (List UInt8 × List UInt8))) : Option (List UInt8 × List UInt8) := rs.foldr Option.or none
theorem firstOf_next {rs : List (Option (List UInt8 × List UInt8))} {k : Nat} {r : Option (List UInt8 × List UInt8)} (h : rs[k]? = some r) : firstOf (rs.drop k) = r.or (firstOf (rs.drop (k + 1))) := by
 obtain ⟨h1, h2⟩ := List.getElem?_eq_some_iff.1 h
 rw [List.drop_eq_getElem_cons h1, h2]; rfl
theorem first_any (A : Option Addr) (n c : Nat) (vs : List Value) (rs : List (Option (List UInt8 × List UInt8))) (w : World) (hr : Rd w w.heap.size A vs) (hl : vs.length = n) (hl2 : rs.length = n) (hc : n ≤ c) (hm : c ≤ maxLen)
  (hT : ∀ (i : Nat) v r, vs[i]? = some v → rs[i]? = some r → Try w v r) :
  Calls Tryz.prog 105 #[.slice A n c] w (ResPost w.heap.size (firstOf rs) w) := by
 rw [maxLen_eq] at hm
 have HB0 := Lib.hid (show Below w.heap.size w (w.alloc (.cells #[.slice none 0 0, .slice none 0 0] 52)) from (Below.refl _ w).alloc (Nat.le_refl _) _)
 have HROW0 := Lib.hid (row_new w #[.slice none 0 0, .slice none 0 0] 52)
 have hlt0 : w.heap.size < (w.alloc (.cells #[.slice none 0 0, .slice none 0 0] 52)).heap.size := by unfold World.alloc; simp
 have HR := Lib.hid hr
 have HT := Lib.hid hT
 have HLL := Lib.hid (And.intro hl hl2)
 clear hr hT hl hl2
 go_enter Tryz.func105, Tryz.ntmps105
 go_wp2_with fail
 obtain ⟨w1, hw1⟩ : ∃ w1, (w.alloc (.cells #[.slice none 0 0, .slice none 0 0] 52)) = w1 := ⟨_, rfl⟩
 rw [hw1] at HB0 HROW0 hlt0 ⊢
 have HLT0 := Lib.hid hlt0
 clear hw1 hlt0
 go_loopw [10] (fun vi wr => ∃ k : Nat, k ≤ n ∧ vi = .int .i64 k ∧ Hid (firstOf rs = firstOf (rs.drop k)) ∧ Below w1.heap.size w1 wr) (fun vi _ => n - (intOf vi).toNat)
 case atStart => exact ⟨0, by omega, rfl, Lib.hid rfl, Below.refl _ _⟩
 case round =>
  obtain ⟨k, hk, rfl, hf, hbel⟩ := hrel
  have HBR := Lib.hid hbel
  clear hbel
  by_cases hlt : k < n
  ·
   obtain ⟨v, hv⟩ : ∃ v, vs[k]? = some v := ⟨_, List.getElem?_eq_getElem (by rw [HLL.out.1]; exact hlt)⟩
   obtain ⟨r, hr⟩ : ∃ v, rs[k]? = some v := ⟨_, List.getElem?_eq_getElem (by rw [HLL.out.2]; exact hlt)⟩
   obtain ⟨b, off, rfl, hb, hcell⟩ := HR.out (fun e => by have := HLL.out.1; rw [e] at this; simp at this; omega)
   have x0 := ((bt HB0.out HBR.out).cell (p := ⟨b, off + k, none⟩) hb).trans (hcell k v hv)
   obtain ⟨f, caps, fn, rfl, h1, h2, h3, h4⟩ := (HT.out k v r hv hr).ex
   have HFN := Lib.hid (And.intro h1 (And.intro h2 h3))
   have HC := Lib.hid (show Calls Tryz.prog f caps wr (ResPost wr.heap.size r wr) from h4 wr (bt HB0.out HBR.out))
   have HNX := Lib.hid (firstOf_next hr)
   clear hcell hv hr h1 h2 h3 h4
   go_wp2_with (refine wl_callv' rfl rfl rfl HFN.out.1 HFN.out.2.1 HFN.out.2.2 rfl ?_)
   refine HC.out.mono ?_
   rintro e w4 ⟨A1, n1, c1, B1, m1, k1, rfl, hf1, hf2, hb4⟩
   refine ⟨_, rfl, ?_, hb4⟩
   try simp only [Act.put, List.setIfInBounds_toArray, List.set_cons_succ, List.set_cons_zero]
   have HB4 := Lib.hid (bt HBR.out hb4)
   have HF := Lib.hid (And.intro hf1 hf2)
   have HSZ := Lib.hid HBR.out.size
   clear hf1 hf2 hb4 x0
   have hb5 : Below w4.heap.size w4 (w4.alloc (.cells #[.slice A1 n1 c1, .slice B1 m1 k1] 52)) := (Below.refl _ w4).alloc (Nat.le_refl _) _
   have HB5 := Lib.hid (bt HB4.out hb5)
   cases r with
   | some r =>
    have hres := Row.belowS HROW0.out HB5.out (Nat.le_refl _)
    have hbox := row_new w4 #[.slice A1 n1 c1, .slice B1 m1 k1] 52
    have x0 := hres.cellQ 0 _ rfl
    have x1 := hres.cellQ 1 _ rfl
    have f0 := hres.frozen 0
    have f1 := hres.frozen 1
    have y0 := hbox.cellQ 0 _ rfl
    have y1 := hbox.cellQ 1 _ rfl
    have HROW := Lib.hid (show ∀ u v, Row (setFrom w.heap.size (w4.alloc (.cells #[.slice A1 n1 c1, .slice B1 m1 k1] 52)) 0 [u, v]) w.heap.size #[u, v] 52 from fun u v => hres.all [u, v] rfl)
    have HFO := Lib.hid (show firstOf rs = some r by rw [hf.out, HNX.out]; rfl)
    have HF5 := Lib.hid (And.intro (HF.out.1.keep hb5) (HF.out.2.keep hb5))
    clear hres hbox hb5 hf
    go_wp2
    generalize hwd : World.setCell (World.setCell (w4.alloc _) _ _) _ _ = wd
    have hsf : setFrom w.heap.size (w4.alloc (.cells #[.slice A1 n1 c1, .slice B1 m1 k1] 52)) 0 [.slice A1 n1 c1, .slice B1 m1 k1] = wd := by rw [← hwd]; rfl
    have r0 : wd.cell? ⟨w.heap.size, 0, none⟩ = some (.slice A1 n1 c1) := by rw [← hsf]; exact (HROW.out _ _).cellQ 0 _ rfl
    have r1 : wd.cell? ⟨w.heap.size, 1, none⟩ = some (.slice B1 m1 k1) := by rw [← hsf]; exact (HROW.out _ _).cellQ 1 _ rfl
    refine bodyPost_ret (v := .tuple #[.agg #[.slice A1 n1 c1, .slice B1 m1 k1], .bool true]) (by simp [results, Tryz.results105, go_sem, r0, r1]) rfl ?_
    rw [HFO.out]
    have hlt : w.heap.size < wr.heap.size := Nat.lt_of_lt_of_le HLT0.out HSZ.out
    exact ⟨A1, n1, c1, B1, m1, k1, rfl, by rw [← hsf]; exact (HF5.out.1.set hlt _ 0).base (Nat.le_of_lt hlt), by rw [← hsf]; exact (HF5.out.2.set hlt _ 0).base (Nat.le_of_lt hlt), by rw [← hsf]; exact below_setFrom (Nat.le_refl _) _ 0 (bt HB0.out HB5.out)⟩
   | none =>
    have HFO := Lib.hid (show firstOf rs = firstOf (rs.drop (k + 1)) by rw [hf.out, HNX.out]; rfl)
    clear hb5 hf
    go_wp2
    go_roundw
    case rel => exact ⟨k + 1, by omega, by go_num, HFO, HB5.out⟩
    case measure => simp [intOf]; omega
  ·
   obtain rfl : k = n := by omega
   have HFO := Lib.hid (show firstOf rs = none by rw [hf.out, List.drop_eq_nil_of_le (by rw [HLL.out.2]; exact Nat.le_refl _)]; rfl)
   have hres := Row.belowS HROW0.out HBR.out (Nat.le_refl _)
   have x0 := hres.cellQ 0 _ rfl
   have x1 := hres.cellQ 1 _ rfl
   have f0 := hres.frozen 0
   have f1 := hres.frozen 1
   have HROW := Lib.hid (show ∀ u v, Row (setFrom w.heap.size wr 0 [u, v]) w.heap.size #[u, v] 52 from fun u v => hres.all [u, v] rfl)
   clear hres hf
   go_wp2
   generalize hwd : World.setCell (World.setCell wr _ _) _ _ = wd
   have hsf : setFrom w.heap.size wr 0 [.slice none 0 0, .slice none 0 0] = wd := by rw [← hwd]; rfl
   have r0 : wd.cell? ⟨w.heap.size, 0, none⟩ = some (.slice none 0 0) := by rw [← hsf]; exact (HROW.out _ _).cellQ 0 _ rfl
   have r1 : wd.cell? ⟨w.heap.size, 1, none⟩ = some (.slice none 0 0) := by rw [← hsf]; exact (HROW.out _ _).cellQ 1 _ rfl
   refine bodyPost_ret (v := .tuple #[.agg #[.slice none 0 0, .slice none 0 0], .bool false]) (by simp [results, Tryz.results105, go_sem, r0, r1]) rfl ?_
   rw [HFO.out]
   exact ⟨none, 0, 0, none, 0, 0, rfl, Fr.nil _ _, Fr.nil _ _, by rw [← hsf]; exact below_setFrom (Nat.le_refl _) _ 0 (bt HB0.out HBR.out)⟩
theorem xnode_any (l r : List UInt8) (w : World) (hl : l.length = 32) (hr : r.length = 32) (ht : Tabs w) :
  Calls Tryz.prog 104 #[sv l, sv r] w (StrPost (tnd l r) w) := by
 have HC := Lib.hid (node_any l r w hl hr ht)
 clear hl hr ht
 go_enter Tryz.func104, Tryz.ntmps104
 go_wp2_with fail
 refine HC.out.mono ?_
 rintro e w1 ⟨rfl, hb1⟩
 have HB1 := Lib.hid hb1
 clear hb1
 go_wp2
 go_ret
 exact ⟨rfl, HB1.out⟩
theorem xroot_any (A : Option Addr) (n c : Nat) (l : List (List UInt8)) (w : World) (h : Ss w A n c l) (h32 : ∀ s ∈ l, s.length = 32) (hn : n ≤ 1000000) (ht : Tabs w) :
  Calls Tryz.prog 130 #[.slice A n c] w (StrPost (troot l) w) := by
 obtain ⟨R, hR⟩ : ∃ R, troot l = R := ⟨_, rfl⟩
 have hc := Root_any A n c l w h h32 hn ht
 rw [hR] at hc ⊢
 have HC := Lib.hid hc
 clear hc h h32 ht hR
 go_enter Tryz.func130, Tryz.ntmps130
 go_wp2_with fail
 refine HC.out.mono ?_
 rintro e w1 ⟨rfl, hb1⟩
 have HB1 := Lib.hid hb1
 clear hb1
 go_wp2
 go_ret
 exact ⟨rfl, HB1.out⟩
theorem JoinPost.ret8 {kd : UInt8} {l : List UInt8} {w w' : World} {e : Ending} (h : JoinPost kd l w e w') : Ret8 w.heap.size (kd :: l) w e w' := by
 obtain ⟨A, c, he, ho, h1, h2, hb⟩ := h
 exact ⟨A, _, c, he, ⟨ho, rfl, h1, h2⟩, hb⟩
theorem ctop_any (A : Option Addr) (n c : Nat) (l : List (List UInt8)) (w : World) (h : Ss w A n c l) (h32 : ∀ s ∈ l, s.length = 32) (h2 : 2 ≤ n) (hn : n ≤ 1000) (ht : Tabs w) :
  Calls Tryz.prog 101 #[.slice A n c] w (Ret8 w.heap.size (Cl.topB l) w) := by
 have hcap := h.cap
 have hmax := h.max
 rw [maxLen_eq] at hmax
 have HLN := Lib.hid h.len
 obtain ⟨k0, hk⟩ : ∃ k0, Tree.sp n = k0 := ⟨_, rfl⟩
 have kp := Tree.sp_pos h2
 have kl := Tree.sp_lt h2
 rw [hk] at kp kl
 have hk0 : k0 ≤ n := by omega
 have HSP := Lib.hid (show Tree.spz (n : Int) = k0 by rw [Tree.spz_in h2 (by omega), hk])
 have HSS := Lib.hid (show ∀ W, Below w.heap.size w W → Ss W A n c l from fun W hW => h.keep hW)
 have HLT := Lib.hid (show (l.take k0).length = k0 ∧ (l.drop k0).length = n - k0 by rw [List.length_take, List.length_drop, HLN.out]; omega)
 obtain ⟨X, hX⟩ : ∃ X, troot (l.take k0) = X := ⟨_, rfl⟩
 obtain ⟨Y, hY⟩ : ∃ X, troot (l.drop k0) = X := ⟨_, rfl⟩
 have lX : X.length = 32 := by rw [← hX]; exact troot_len (all_take h32 k0)
 have lY : Y.length = 32 := by rw [← hY]; exact troot_len (all_drop h32 k0)
 have HE := Lib.hid (show Cl.topB l = 1 :: (X ++ Y) by unfold Cl.topB; rw [h.len, hk, hX, hY])
 have HR1 := Lib.hid (show ∀ (A' : Option Addr) (c' : Nat) (W : World), Below w.heap.size w W → Ss W A' k0 c' (l.take k0) → Calls Tryz.prog 130 #[.slice A' k0 c'] W (StrPost X W) from fun A' c' W hW g => by rw [← hX]; exact xroot_any A' k0 c' (l.take k0) W g (all_take h32 k0) (by omega) (ht.below hW))
 have HR2 := Lib.hid (show ∀ (A' : Option Addr) (c' : Nat) (W : World), Below w.heap.size w W → Ss W A' (n - k0) c' (l.drop k0) → Calls Tryz.prog 130 #[.slice A' (n - k0) c'] W (StrPost Y W) from fun A' c' W hW g => by rw [← hY]; exact xroot_any A' (n - k0) c' (l.drop k0) W g (all_drop h32 k0) (by omega) (ht.below hW))
 unfold StrPost at HR1 HR2
 have QB := Lib.hid (show ∀ W, Below w.heap.size w W → Calls Tryz.prog 103 #[sv X, sv Y] W (Ret8 W.heap.size (1 :: (X ++ Y)) W) from fun W hW => (nodeBytes_any X Y W (by omega) (by omega)).mono fun e w2 h => h.ret8)
 unfold Ret8 at QB
 clear h h32 hX hY lX lY hk
 go_enter Tryz.func101, Tryz.ntmps101
 go_wp2_with fail
 refine (split_any (n : Int) w (by omega) (by omega)).mono ?_
 rintro e w1 ⟨rfl, rfl⟩
 rw [HSP.out]
 go_wp2_with fail
 refine Free.wp_free_l 9 (fun W => Below w.heap.size w W) [Free.kc (.slice A n c), Free.kc (.int .i64 (k0 : Int)), Free.kr (k0) ((l.take k0).map sv), Free.kc (sv X), Free.kc (.slice A n c), Free.kc (.int .i64 (k0 : Int)), Free.kr (n - k0) ((l.drop k0).map sv), Free.kc (sv Y), Free.kB (w.heap.size) (1 :: (X ++ Y))] (by kernel_rfl) (by kernel_rfl) (by decide) (Below.refl _ _).drew (fun w w' h g => bt h g) ?_ ?_
 ·
  iterate 9 refine Free.forall_succ ?_ ?_
  all_goals first | exact Free.forall_zero | (refine Free.op fun vals wq hC hd => ?_) | skip
  · exact Free.dm
  · exact Free.dm
  · obtain ⟨A', hrun, hss⟩ := run_cutS_hi (HSS.out wq hC) k0 hk0; exact Free.d_slice rfl (Free.tr 0 hd) rfl (show _ = some (Value.int .i64 (k0 : Int)) from congrArg some (Free.tr 1 hd)) rfl hrun ⟨A', c, rfl, hss.rd, hss.cap, hss.max⟩
  · obtain ⟨A2, k2, e2, rd2, le2, mx2⟩ := hd 2 (by kernel_rfl); exact Free.d_call Tryz.func130 (by kernel_rfl) (by kernel_rfl) rfl rfl (Free.arg1 (Eq.trans (b := vals 2) (by kernel_rfl) e2)) ((HR1.out A2 k2 wq hC ⟨rd2, HLT.out.1, le2, mx2⟩).mono fun e w2 h => ⟨_, h.1, rfl, h.2⟩)
  · exact Free.dm
  · exact Free.dm
  · obtain ⟨A', hrun, hss⟩ := run_cutS_lo (HSS.out wq hC) k0 hk0; exact Free.d_slice rfl (Free.tr 4 hd) (show _ = some (Value.int .i64 (k0 : Int)) from congrArg some (Free.tr 5 hd)) rfl rfl hrun ⟨A', c - k0, rfl, hss.rd, hss.cap, hss.max⟩
  · obtain ⟨A6, k6, e6, rd6, le6, mx6⟩ := hd 6 (by kernel_rfl); exact Free.d_call Tryz.func130 (by kernel_rfl) (by kernel_rfl) rfl rfl (Free.arg1 (Eq.trans (b := vals 6) (by kernel_rfl) e6)) ((HR2.out A6 k6 wq hC ⟨rd6, HLT.out.2, le6, mx6⟩).mono fun e w2 h => ⟨_, h.1, rfl, h.2⟩)
  · exact Free.d_call Tryz.func103 (by kernel_rfl) (by kernel_rfl) rfl rfl (Free.arg2 (Free.tr 3 hd) (Free.tr 7 hd)) ((QB.out wq hC).mono fun e w2 h => (by obtain ⟨A1, n1, c1, he, ho, hb⟩ := h; exact ⟨_, he, ⟨A1, n1, c1, rfl, ho.base hC.size⟩, hb⟩))
 ·
  intro vals wq hC hd
  refine Free.go hd ?_
  rintro _ rfl _ rfl _ ⟨A2, k2, rfl, rd2, le2, mx2⟩ _ rfl _ rfl _ rfl _ ⟨A6, k6, rfl, rd6, le6, mx6⟩ _ rfl _ ⟨A8, n8, k8, rfl, ow8⟩
  simp only [Free.All, Free.fl, Act.put, Free.sa, Free.s0, Free.s1]
  clear hd
  have HB := Lib.hid hC
  have HO8 := Lib.hid ow8
  clear hC ow8
  go_wp2_with fail
  go_ret
  exact ⟨A8, n8, k8, rfl, by rw [HE.out]; exact HO8.out, HB.out⟩
def pv (q : Piece) : Value := .slice q.a q.n q.c
theorem rowsT : ElemT Tryz.prog 66 28 1 24 := ElemT.mk' (z := .slice none 0 0) Tryz.underlying66 (by kernel_rfl) rfl (by omega)
section
variable {ops : Array Oper} {rest : List Oper} {o : Oper} {a : Act} {Q : Exit → Act → World → Prop} {w : World}
theorem wl_app1g {T e : TypeId} {bytes : Nat} (hT : ElemT Tryz.prog T e 1 bytes) (hbt : bytes ≤ 100) (hgd : o.guard = none) (s x : Operand) (ho : o.op = .call { callee := .builtin .append, args := #[s, x], argTypes := #[T, T] })
  {w0 : World} {B : Nat} {A : Option Addr} {n c : Nat} {xs : List Value} (hs : a.eval s = .slice A n c) (h1 : w0.ownsRow B e 1 (.slice A n c) n xs)
  (hx : a.eval x = .slice (some ⟨w0.heap.size, 0, none⟩) 1 1) (v : Value) (hv : v.oneCell' = true) (hsz : n ≤ 1000000000) (hB : B ≤ w0.heap.size)
  (h : ∀ A' c' w', w'.ownsRow B e 1 (.slice A' (n + 1) c') (n + 1) (xs ++ [v]) → (w0.alloc (.cells #[v] e)).grownBy w' (Value.slice A n c).ownBlock → Below B w0 w' → n + 1 ≤ c' → c' ≤ maxLen → wpList Tryz.prog ops Q rest (a.put o.dst (.slice A' (n + 1) c')) w') : wpList Tryz.prog ops Q (o :: rest) a (w0.alloc (.cells #[v] e)) := by
 have hb0 : Below w0.heap.size w0 (w0.alloc (.cells #[v] e)) := (Below.refl _ w0).alloc (Nat.le_refl _) _
 refine wl_app hgd s x T ho B e 1 bytes hT _ n _ hs (own_keep h1 hb0 (Nat.le_refl _)) (w0.heap.size + 1) (some ⟨w0.heap.size, 0, none⟩) 1 1 [v] hx (rd_new w0 [v] e (0, 0)) rfl (by intro u hu; rw [List.mem_singleton.1 hu]; exact hv) (by rw [maxLen_eq]; omega) (by
  have : (n + 1) * bytes ≤ (n + 1) * 100 := Nat.mul_le_mul_left _ hbt
  omega) (Nat.le_trans hB hb0.size) fun A' c' w' g1 g2 _ g4 g5 g6 => h A' c' w' g1 g2 ((hb0.mono hB).trans g4) g5 g6
end
theorem info_try : (Tryz.prog.info? 139).map (fun i => (i.zero, i.size, i.bytes)) = some (some .nilFunc, 1, 8) := by kernel_rfl
theorem wl_makeT {ops : Array Oper} {rest : List Oper} {o : Oper} {a : Act} {Q : Exit → Act → World → Prop} {w : World} (hgd : o.guard = none) (l c : Operand) (hop : o.op = .makeSlice 137 l c) (n : Nat) (hl : a.eval l = .int .i64 (n : Int)) (hc : a.eval c = .int .i64 (n : Int)) (hn : n ≤ 1000)
  (h : ∀ (cs : Array Value) (w' : World), cs.size = n → Row w' w.heap.size cs 139 → Below w.heap.size w w' → wpList Tryz.prog ops Q rest (a.put o.dst (.slice (some ⟨w.heap.size, 0, none⟩) n n)) w') : wpList Tryz.prog ops Q (o :: rest) a w := by
 refine wpList_plain hgd fun K hK' => ?_
 have hrun := run_make_row' (P := Tryz.prog) 137 139 .nilFunc 8 Tryz.underlying137 info_try rfl .i64 .i64 n (by omega) (by omega) w
 unfold Oper.wp
 simp [execOp, hop, hl, hc, hrun, Result.andThen]
 exact hK' _ _ (h _ _ (size_madeCells _ _) (row_new w _ _) ((Below.refl _ w).alloc (Nat.le_refl _) _))
theorem own_form0 {w : World} {B : Nat} {e : TypeId} {A : Option Addr} {n c : Nat} {xs : List Value} (h : w.ownsRow B e 1 (.slice A n c) n xs) (hn : 0 < n) : ∃ g, A = some ⟨g, 0, none⟩ ∧ B ≤ g ∧ g < w.heap.size ∧ ∀ j v, xs[j]? = some v → w.cell? ⟨g, j, none⟩ = some v := by
 have hc : ∀ g, A = some ⟨g, 0, none⟩ → ∀ j v, xs[j]? = some v → w.cell? ⟨g, j, none⟩ = some v := fun g hg j v hv => by
  subst hg
  have hj : j < xs.length := (List.getElem?_eq_some_iff.1 hv).1
  have := h.cellAt j (by have := h.1; omega)
  rw [hv] at this
  exact this
 rcases h.2 with ⟨hv, h0⟩ | ⟨g, cap, cur, hv, h1, h2, _⟩
 · omega
 ·
  simp only [Value.slice.injEq, true_and] at hv
  have hlt : g < w.heap.size := by
   rcases Nat.lt_or_ge g w.heap.size with hlt | hge
   · exact hlt
   · rw [Array.getElem?_eq_none hge] at h2; cases h2
  exact ⟨g, hv.1, h1, hlt, hc g hv.1⟩
structure L1 (w wr : World) (Ah : Option Addr) (nh ch : Nat) (ps : List Piece) (Ar : Option Addr) (nr cr : Nat) (R : List Bool) : Prop where
 h : wr.ownsRow w.heap.size 28 1 (.slice Ah nh ch) nh (ps.map pv)
 pcs : ∀ q ∈ ps, Own8 wr w.heap.size q.a q.n q.c q.l ∧ q.l.length ≤ 1000
 r : wr.ownsRow w.heap.size 4 1 (.slice Ar nr cr) nr (R.map Value.bool)
 bel : Below w.heap.size w wr
 capH : nh ≤ ch ∧ ch ≤ maxLen
 capR : nr ≤ cr ∧ cr ≤ maxLen
 lenH : ps.length = nh
 lenR : R.length = nr
section
variable {w wr w' : World} {Ah Ar A' : Option Addr} {nh ch nr cr c' : Nat} {ps : List Piece} {R : List Bool}
theorem L1.start (w : World) : L1 w w none 0 0 [] none 0 0 [] := ⟨own_nil _ _ _ _, by simp, own_nil _ _ _ _, Below.refl _ _, ⟨Nat.le_refl _, Nat.zero_le _⟩, ⟨Nat.le_refl _, Nat.zero_le _⟩, rfl, rfl⟩
theorem L1.keep (h : L1 w wr Ah nh ch ps Ar nr cr R) (hb : Below wr.heap.size wr w') : L1 w w' Ah nh ch ps Ar nr cr R :=
 ⟨own_keep h.h hb (Nat.le_refl _), fun q hq => ⟨(h.pcs q hq).1.keep hb, (h.pcs q hq).2⟩, own_keep h.r hb (Nat.le_refl _), h.bel.trans (hb.mono h.bel.size), h.capH, h.capR, h.lenH, h.lenR⟩
theorem L1.addH (h : L1 w wr Ah nh ch ps Ar nr cr R) (q : Piece) (hq : Own8 wr w.heap.size q.a q.n q.c q.l) (hq2 : q.l.length ≤ 1000) (g1 : w'.ownsRow w.heap.size 28 1 (.slice A' (nh + 1) c') (nh + 1) (ps.map pv ++ [pv q])) (g2 : (wr.alloc (.cells #[pv q] 28)).grownBy w' (Value.slice Ah nh ch).ownBlock) (g3 : Below w.heap.size wr w') (g4 : nh + 1 ≤ c') (g5 : c' ≤ maxLen) :
  L1 w w' A' (nh + 1) c' (ps ++ [q]) Ar nr cr R := by
 have hb0 : Below wr.heap.size wr (wr.alloc (.cells #[pv q] 28)) := (Below.refl _ wr).alloc (Nat.le_refl _) _
 have ho := own_keep h.h hb0 (Nat.le_refl _)
 have piece : ∀ p : Piece, Own8 wr w.heap.size p.a p.n p.c p.l → Own8 w' w.heap.size p.a p.n p.c p.l := fun p hp => ⟨own_other ho (own_keep hp.own hb0 (Nat.le_refl _)) (by decide) g2, hp.len, hp.cap, hp.max⟩
 refine ⟨by rw [List.map_append]; exact g1, fun p hp => ?_, own_other ho (own_keep h.r hb0 (Nat.le_refl _)) (by decide) g2, h.bel.trans g3, ⟨g4, g5⟩, h.capR, by rw [List.length_append, h.lenH]; rfl, h.lenR⟩
 rcases List.mem_append.1 hp with hp | hp
 · exact ⟨piece p (h.pcs p hp).1, (h.pcs p hp).2⟩
 · rw [List.mem_singleton.1 hp]; exact ⟨piece q hq, hq2⟩
theorem L1.addR (h : L1 w wr Ah nh ch ps Ar nr cr R) (b : Bool) (g1 : w'.ownsRow w.heap.size 4 1 (.slice A' (nr + 1) c') (nr + 1) (R.map Value.bool ++ [.bool b])) (g2 : (wr.alloc (.cells #[.bool b] 4)).grownBy w' (Value.slice Ar nr cr).ownBlock) (g3 : Below w.heap.size wr w') (g4 : nr + 1 ≤ c') (g5 : c' ≤ maxLen) :
  L1 w w' Ah nh ch ps A' (nr + 1) c' (R ++ [b]) := by
 have hb0 : Below wr.heap.size wr (wr.alloc (.cells #[.bool b] 4)) := (Below.refl _ wr).alloc (Nat.le_refl _) _
 have ho := own_keep h.r hb0 (Nat.le_refl _)
 exact ⟨own_other ho (own_keep h.h hb0 (Nat.le_refl _)) (by decide) g2, fun p hp => ⟨⟨own_other ho (own_keep (h.pcs p hp).1.own hb0 (Nat.le_refl _)) (by decide) g2, (h.pcs p hp).1.len, (h.pcs p hp).1.cap, (h.pcs p hp).1.max⟩, (h.pcs p hp).2⟩, by rw [List.map_append]; exact g1, h.bel.trans g3, h.capH, ⟨g4, g5⟩, h.lenH, by rw [List.length_append, h.lenR]; rfl⟩
end
structure FrX (w : World) (x : Nat) (A : Option Addr) (n c : Nat) (l : List UInt8) : Prop where
 rd : Rd w w.heap.size A (l.map bv)
 ne : l ≠ [] → ∃ b off, A = some ⟨b, off, none⟩ ∧ b ≠ x
 len : l.length = n
 cap : n ≤ c
 max : c ≤ maxLen
section
variable {w w' : World} {x n c : Nat} {A : Option Addr} {l : List UInt8}
theorem FrX.keep (h : FrX w x A n c l) (hb : Below w.heap.size w w') : FrX w' x A n c l := ⟨(h.rd.below' hb (Nat.le_refl _)).more hb.size, h.ne, h.len, h.cap, h.max⟩
theorem FrX.bs (h : FrX w x A n c l) : Bs w A n c l := ⟨h.rd, h.len, h.cap, h.max⟩
theorem FrX.of8 {L : Nat} (h : Own8 w L A n c l) (hx : x < L) : FrX w x A n c l := by
 have f := Fr.of8 h
 exact ⟨f.rd, fun hl => by obtain ⟨b, off, e, hb⟩ := f.low hl; exact ⟨b, off, e, by omega⟩, f.len, f.cap, f.max⟩
theorem FrX.ofRd (h : Rd w x A (l.map bv)) (hx : x ≤ w.heap.size) (hl : l.length = n) (hc : n ≤ c) (hm : c ≤ maxLen) : FrX w x A n c l :=
 ⟨h.more hx, fun hn => by obtain ⟨b, off, e, hb, _⟩ := h (by simpa using hn); exact ⟨b, off, e, by omega⟩, hl, hc, hm⟩
theorem FrX.set (h : FrX w x A n c l) (j : Nat) (u : Value) : FrX (w.setCell ⟨x, j, none⟩ u) x A n c l := by
 refine ⟨fun hn => ?_, h.ne, h.len, h.cap, h.max⟩
 obtain ⟨b1, off, rfl, hlt, hc⟩ := h.rd hn
 obtain ⟨b2, off2, e, hx⟩ := h.ne (fun e => hn (by rw [e]; rfl))
 simp only [Option.some.injEq, Addr.mk.injEq, and_true] at e
 refine ⟨b1, off, rfl, by rw [show (w.setCell ⟨x, j, none⟩ u).heap.size = w.heap.size from size_setFrom x [u] w j]; exact hlt, fun k v hv => ?_⟩
 rw [← hc k v hv]
 exact World.cell?_setCell_other w _ _ u (fun e2 => by have := congrArg Addr.block e2; simp only at this; omega)
end
structure Pend (w : World) (x : Nat) (v : Value) (a b : List UInt8) : Prop where
 ex : ∃ (g1 g2 : Nat) (A : Option Addr) (n c : Nat) (B : Option Addr) (m k : Nat), v = .func (.func 131) #[] #[.pointer (some ⟨g1, 0, none⟩), .pointer (some ⟨g2, 0, none⟩)] ∧ x < g1 ∧ x < g2 ∧ Row w g1 #[.slice A n c] 28 ∧ Row w g2 #[.slice B m k] 28 ∧ FrX w x A n c a ∧ FrX w x B m k b ∧ a.length ≤ 1000000 ∧ b.length ≤ 1000000
theorem Pend.keep {w w' : World} {x : Nat} {v : Value} {a b : List UInt8} (h : Pend w x v a b) (hb : Below w.heap.size w w') : Pend w' x v a b := by
 obtain ⟨g1, g2, A, n, c, B, m, k, e, h1, h2, h3, h4, h5, h6, h7⟩ := h.ex
 exact ⟨g1, g2, A, n, c, B, m, k, e, h1, h2, h3.belowS hb (Nat.le_refl _), h4.belowS hb (Nat.le_refl _), h5.keep hb, h6.keep hb, h7⟩
theorem Pend.set {w : World} {x : Nat} {v : Value} {a b : List UInt8} (h : Pend w x v a b) (j : Nat) (u : Value) : Pend (w.setCell ⟨x, j, none⟩ u) x v a b := by
 obtain ⟨g1, g2, A, n, c, B, m, k, e, h1, h2, h3, h4, h5, h6, h7⟩ := h.ex
 exact ⟨g1, g2, A, n, c, B, m, k, e, h1, h2, h3.far x j u (by omega), h4.far x j u (by omega), h5.set j u, h6.set j u, h7⟩
theorem Pend.try {w : World} {x : Nat} {v : Value} {a b : List UInt8} (h : Pend w x v a b) (ht : Tabs w) : Try w v (Cl.btw a b) := by
 obtain ⟨g1, g2, A, n, c, B, m, k, e, h1, h2, h3, h4, h5, h6, h7, h8⟩ := h.ex
 exact ⟨_, _, _, e, Tryz.func131, by kernel_rfl, by kernel_rfl, fun W hW => pair1_any g1 g2 A n c B m k a b W (Nat.lt_of_lt_of_le h3.lt hW.size) (Nat.lt_of_lt_of_le h4.lt hW.size)
  ((h3.belowS hW (Nat.le_refl _)).cellQ 0 _ rfl) ((h4.belowS hW (Nat.le_refl _)).cellQ 0 _ rfl) (h5.bs.keep hW) (by rw [← h5.len]; exact h7) (h6.bs.keep hW) (by rw [← h6.len]; exact h8) (ht.below hW)⟩
def Free.kP (x : Nat) (a b : List UInt8) : Free.SV := ⟨fun v w => ∃ v', v = v' ∧ Pend w x v' a b, fun v w w' ⟨v', h1, h2⟩ g => ⟨v', h1, h2.keep g⟩⟩
theorem pair_raw (A : Option Addr) (n c : Nat) (B : Option Addr) (m k : Nat) (w : World) :
  Calls Tryz.prog 102 #[.slice A n c, .slice B m k] w fun e w' => ∃ g1 g2, e = .returned (.func (.func 131) #[] #[.pointer (some ⟨g1, 0, none⟩), .pointer (some ⟨g2, 0, none⟩)]) ∧ w.heap.size ≤ g1 ∧ w.heap.size ≤ g2 ∧ Row w' g1 #[.slice A n c] 28 ∧ Row w' g2 #[.slice B m k] 28 ∧ Below w.heap.size w w' := by
 have s1 : (w.alloc (.cells #[.slice A n c] 28)).heap.size = w.heap.size + 1 := by unfold World.alloc; simp
 have hb1 : Below w.heap.size w (w.alloc (.cells #[.slice A n c] 28)) := (Below.refl _ w).alloc (Nat.le_refl _) _
 have y1 := row_new (w.alloc (.cells #[.slice A n c] 28)) #[.slice B m k] 28
 rw [s1] at y1
 have HH := Lib.hid (And.intro ((row_new w #[.slice A n c] 28).alloc (.cells #[.slice B m k] 28)) (And.intro y1 (hb1.alloc hb1.size (.cells #[.slice B m k] 28))))
 clear s1 hb1 y1
 go_enter Tryz.func102, Tryz.ntmps102
 go_wp2
 go_ret
 exact ⟨w.heap.size, w.heap.size + 1, rfl, Nat.le_refl _, Nat.le_succ _, HH.out.1, HH.out.2.1, HH.out.2.2⟩
structure L2 (wm wr : World) (x np : Nat) (cs : Array Value) (lo : Nat) (F G : Nat → List UInt8) : Prop where
 row : Row wr x cs 139
 size : cs.size = np + 1
 bel : Below x wm wr
 pend : ∀ t, lo ≤ t → t < np → ∃ v, cs[t]? = some v ∧ Pend wr x v (F t) (G t)
theorem L2.keep {wm wr w' : World} {x np : Nat} {cs : Array Value} {lo : Nat} {F G : Nat → List UInt8} (h : L2 wm wr x np cs lo F G) (hb : Below wr.heap.size wr w') : L2 wm w' x np cs lo F G :=
 ⟨h.row.belowS hb (Nat.le_refl _), h.size, h.bel.trans (hb.mono (Nat.le_of_lt h.row.lt)), fun t h1 h2 => by obtain ⟨v, e, hp⟩ := h.pend t h1 h2; exact ⟨v, e, hp.keep hb⟩⟩
theorem L2.set {wm wr : World} {x np : Nat} {cs : Array Value} {lo t : Nat} {F G : Nat → List UInt8} (h : L2 wm wr x np cs lo F G) (ht : t + 1 = lo) {v : Value} (hv : Pend wr x v (F t) (G t)) : L2 wm (wr.setCell ⟨x, t, none⟩ v) x np (cs.setIfInBounds t v) t F G := by
 refine ⟨h.row.set t v, by rw [Array.size_setIfInBounds]; exact h.size, h.bel.setCell (Nat.le_refl _) _, fun k h1 h2 => ?_⟩
 by_cases e : k = t
 ·
  subst e
  exact ⟨v, by rw [Array.getElem?_setIfInBounds_self_of_lt (by rw [h.size]; omega)], hv.set _ _⟩
 ·
  obtain ⟨u, e2, hp⟩ := h.pend k (by omega) h2
  exact ⟨u, by rw [Array.getElem?_setIfInBounds_ne (by omega)]; exact e2, hp.set _ _⟩
def Fn (d : List UInt8) (S : List Bool) (p : List (List UInt8)) (t : Nat) : List UInt8 := Cl.nb (S.getD t false) (Tree.clb tnd tnil d (S.drop (t + 1)) (p.take (S.length - 1 - t))) (p.getD (S.length - 1 - t) [])
def Gn (H : List (List UInt8)) (t : Nat) : List UInt8 := H.getD t []
theorem RowsAt.keep {w w' : World} {A : Option Addr} {n : Nat} {f : Nat → Piece} (h : RowsAt w A n f) (hb : Below w.heap.size w w') : RowsAt w' A n f := fun hn => by
 obtain ⟨b, off, e, hlt, hc⟩ := h hn
 exact ⟨b, off, e, Nat.lt_of_lt_of_le hlt hb.size, fun i hi => ⟨(hb.cell (p := ⟨b, off + i, none⟩) hlt).trans (hc i hi).1, ⟨((hc i hi).2.rd.below' hb (Nat.le_refl _)).more hb.size, (hc i hi).2.len, (hc i hi).2.cap, (hc i hi).2.max⟩⟩⟩
def raws (f : Nat → Piece) (n : Nat) : List (List UInt8) := (List.range n).map fun i => (f i).l
theorem raws_lv (f : Nat → Piece) (n : Nat) : tleaves f n = Cl.lv (raws f n) := by simp [tleaves, raws, Cl.lv]
theorem raws_len (f : Nat → Piece) (n : Nat) : (raws f n).length = n := by simp [raws]
theorem raws_at (f : Nat → Piece) (n i : Nat) (h : i < n) : (raws f n)[i]? = some (f i).l := by simp [raws, h]
theorem cleaf_yes (Al : Option Addr) (nl cl : Nat) (f : Nat → Piece) (i : Nat) (Ax : Option Addr) (nx cx : Nat) (leaf : List UInt8) (Ap : Option Addr) (np cp : Nat) (p : List (List UInt8)) (w : World) (hrows : RowsAt w Al nl f) (hc : nl ≤ cl) (hm : cl ≤ maxLen) (hn : nl ≤ 300) (hsm : ∀ i, i < nl → (f i).n ≤ 1000)
  (hi : i < nl) (hx : Bs w Ax nx cx leaf) (hx2 : nx ≤ 1000) (hp : Ss w Ap np cp p) (h32 : ∀ s ∈ p, s.length = 32) (hpl : np = (Tree.sides i nl).length) (ht : Tabs w) :
  Calls Tryz.prog 57 #[.slice Al nl cl, .int .i64 (i : Int), .slice Ax nx cx, .slice Ap np cp] w (ResPost w.heap.size (Cl.lf leaf (Tree.sides i nl) (raws f nl) p) w) := by
 have hmx := hm
 rw [maxLen_eq] at hmx
 have hpc := hp.cap
 have hpm := hp.max
 rw [maxLen_eq] at hpm
 have hlog := Tree.sides_log 10 i nl (by rw [show (2 : Nat) ^ 10 = 1024 by decide]; omega) hi
 rw [← hpl] at hlog
 -- what is asked for
 obtain ⟨li, hli⟩ : ∃ q, f i = q := ⟨_, rfl⟩
 have HLI := Lib.hid hli
 obtain ⟨S, hS⟩ : ∃ S, Tree.sides i nl = S := ⟨_, rfl⟩
 obtain ⟨d0, hd0⟩ : ∃ d, seal_ 0 leaf = d := ⟨_, rfl⟩
 have hd32 : d0.length = 32 := by rw [← hd0]; exact seal_len _ _
 obtain ⟨H, hH⟩ : ∃ H, Cl.tops S (tleaves f nl) = H := ⟨_, rfl⟩
 have hlf : Cl.lf leaf S (raws f nl) p = firstOf (Cl.rsAll d0 S H p (Cl.btw (0 :: leaf) (0 :: li.l))) := by
  have hw := Cl.way_end nl (raws f nl) i li.l (by rw [raws_len]; exact Nat.le_refl _) (by rw [raws_at f nl i hi, hli])
  rw [raws_len, hS] at hw
  have := Cl.rs_lf leaf S (raws f nl) p li.l (by rw [hp.len, hpl, hS]) hw
  rw [hd0, ← raws_lv, hH] at this
  exact this.symm
 have hrl : (Cl.rsAll d0 S H p (Cl.btw (0 :: leaf) (0 :: li.l))).length = np + 1 := by rw [Cl.rsAll_len, hpl, hS]
 obtain ⟨rs, hrs⟩ : ∃ rs, Cl.rsAll d0 S H p (Cl.btw (0 :: leaf) (0 :: li.l)) = rs := ⟨_, rfl⟩
 rw [hrs] at hlf hrl
 have hSl : S.length = np := by rw [hpl, hS]
 have hrt : ∀ t, t < np → rs[t]? = some (Cl.btw (Fn d0 S p t) (Gn H t)) := fun t h => by
  rw [← hrs]
  unfold Cl.rsAll
  rw [List.getElem?_append_left (by simp [hSl]; exact h), List.getElem?_map, List.getElem?_range (by rw [hSl]; exact h)]
  rfl
 have hrn : rs[np]? = some (Cl.btw (0 :: leaf) (0 :: li.l)) := by
  rw [← hrs]
  unfold Cl.rsAll
  rw [List.getElem?_append_right (by simp [hSl])]
  simp [hSl]
 have HLF := Lib.hid hlf
 have HRS := Lib.hid (And.intro hrl (And.intro hrt hrn))
 have HRO := Lib.hid hrows
 have HX := Lib.hid hx
 have HP := Lib.hid hp
 have HP32 := Lib.hid h32
 have HT := Lib.hid ht
 have HSS := Lib.hid hS
 have HHH := Lib.hid hH
 have HSL := Lib.hid hSl
 have HSM := Lib.hid hsm
 have HB0 := Lib.hid (show Below w.heap.size w (w.alloc (.cells #[.slice none 0 0, .slice none 0 0] 52)) from (Below.refl _ w).alloc (Nat.le_refl _) _)
 have HROW0 := Lib.hid (row_new w #[.slice none 0 0, .slice none 0 0] 52)
 rw [HSS.out, HLF.out]
 -- the calls of the beginning
 have cy := fun (W : World) (hW : Below w.heap.size w W) => climb_yes d0 i nl Ap np cp p W hd32 hi (by omega) (hp.keep hW) h32 (ht.below hW) hpl
 obtain ⟨Y0, hY0⟩ : ∃ Y, tclimb d0 i nl p = Y := ⟨_, rfl⟩
 rw [hY0] at cy
 have CY := Lib.hid cy
 have cl1 := fun (W : World) (hW : Below w.heap.size w W) => leaf_any Ax nx cx leaf W (hx.keep hW).rd hx.len hx.cap hx.max (by omega) (ht.below hW)
 unfold SealPost at cl1
 rw [hd0] at cl1
 have CL := Lib.hid cl1
 have CV := Lib.hid (show ∀ W, Below w.heap.size w W → Calls Tryz.prog 31 #[.slice Al nl cl] W (OwnSPost W.heap.size (tleaves f nl) W) from fun W hW => leaves_any Al nl cl f W (hrows.keep hW) hc hm (by omega) (fun i hi => by have := hsm i hi; omega) (ht.below hW))
 unfold OwnSPost at CV
 have g1 : ¬ (i : Int) < 0 := by omega
 have g2 : ¬ (nl : Int) ≤ (i : Int) := by omega
 have HPL := Lib.hid hpl
 clear hli hpl hrows hx hp h32 ht hS hd0 hH hlf hrl hrs hSl hrt hrn hY0 cy cl1 hsm hm
 go_enter Tryz.func57, Tryz.ntmps57
 go_wp2_with fail
 refine (CL.out _ HB0.out).mono ?_
 rintro e w1 ⟨rfl, hb1⟩
 have HB1 := Lib.hid (bt HB0.out hb1)
 have HR1 := Lib.hid (HROW0.out.belowS hb1 (Nat.le_refl _))
 clear hb1
 go_wp2_with fail
 refine (CY.out _ HB1.out).mono ?_
 rintro e w2 ⟨rfl, hb2⟩
 have HB2 := Lib.hid (bt HB1.out hb2)
 have HR2 := Lib.hid (HR1.out.belowS hb2 (Nat.le_refl _))
 clear hb2
 go_wp2_with fail
 refine (CV.out _ HB2.out).mono ?_
 rintro e w3 ⟨Ad, nd, cd, rfl, ho3, hb3⟩
 have HB3 := Lib.hid (bt HB2.out hb3)
 have HR3 := Lib.hid (HR2.out.belowS hb3 (Nat.le_refl _))
 have hnd : nd = nl := by
  rw [← ho3.len, raws_lv]
  simp [Cl.lv, raws]
 have hcd := ho3.cap
 have hmd := ho3.max
 rw [maxLen_eq] at hmd
 have hsb : Sb w3 w3.heap.size Ad nd cd (tleaves f nl) := ⟨ho3.ss.rd, ho3.len, ho3.cap, ho3.max⟩
 have HSB := Lib.hid hsb
 have HND := Lib.hid hnd
 clear hb3 ho3 hsb hnd
 go_wp2_with fail
 go_loopw [12, 13, 14, 15] (fun vh vr vd va wr => ∃ (Ah : Option Addr) (nh ch : Nat) (ps : List Piece) (Ar : Option Addr) (nr cr : Nat) (R : List Bool) (A2 : Option Addr) (n2 c2 : Nat) (ds : List (List UInt8)) (x : Nat), vh = .slice Ah nh ch ∧ vr = .slice Ar nr cr ∧ vd = .slice A2 n2 c2 ∧ va = .int .i64 x ∧ nh ≤ 10 ∧ nr ≤ 10 ∧ n2 ≤ 300 ∧ L1 w3 wr Ah nh ch ps Ar nr cr R ∧ Sb wr w3.heap.size A2 n2 c2 ds ∧ Cl.Way S (tleaves f nl) R (ps.map (·.l)) x ds) (fun _ _ vd _ _ => lenS vd)
 case atStart =>
  refine ⟨none, 0, 0, [], none, 0, 0, [], Ad, nd, cd, tleaves f nl, i, rfl, rfl, rfl, rfl, by omega, by omega, by have := HND.out; omega, L1.start w3, HSB.out, ?_⟩
  have := Cl.Way.start (ds := tleaves f nl) (x := i) (by rw [raws_lv]; exact Cl.lv_all _) (by rw [HSB.out.len, HND.out]; exact hi)
  rw [HSB.out.len, HND.out, HSS.out] at this
  exact this
 case round =>
  obtain ⟨Ah, nh, ch, ps, Ar, nr, cr, R, A2, n2, c2, ds, x, rfl, rfl, rfl, rfl, hnh, hnr, hn2, hl1, hsb, hway⟩ := hrel
  have hlt2 := hway.lt
  rw [hsb.len] at hlt2
  have hc2 := hsb.cap
  have hm2 := hsb.max
  rw [maxLen_eq] at hm2
  have hch := hl1.capH
  have hcr := hl1.capR
  rw [maxLen_eq] at hch hcr
  have HL1 := Lib.hid hl1
  have HS1 := Lib.hid hsb
  have HWY := Lib.hid hway
  by_cases h1 : 1 < n2
  ·
   have hbound : R.length + 1 ≤ S.length := by
    have e := hway.eS
    rw [e, List.length_append]
    have : 1 ≤ (Tree.sides x ds.length).length := by
     by_cases hq : x < Tree.sp ds.length
     · rw [Tree.sides_left (by rw [hsb.len]; omega) hq]; simp
     · rw [Tree.sides_right (by rw [hsb.len]; omega) hq]; simp
    omega
   have hnh2 : nh + 1 ≤ 10 ∧ nr + 1 ≤ 10 := by
    have a := hl1.lenH
    have b := hl1.lenR
    have c := hway.len
    rw [List.length_map] at c
    have := HSL.out
    omega
   obtain ⟨k0, hk⟩ : ∃ k0, Tree.sp n2 = k0 := ⟨_, rfl⟩
   have kp := Tree.sp_pos (n := n2) (by omega)
   have kl := Tree.sp_lt (n := n2) (by omega)
   rw [hk] at kp kl
   have HSP := Lib.hid (show Tree.spz (n2 : Int) = k0 by rw [Tree.spz_in (by omega) (by omega), hk])
   have HK := Lib.hid (show Tree.sp ds.length = k0 by rw [hsb.len]; exact hk)
   clear hl1 hsb hway hk hbound
   obtain ⟨tb, htb⟩ : ∃ t, Cl.topB ds = t := ⟨_, rfl⟩
   have htl : tb.length ≤ 1000 := by
    rw [← htb]
    unfold Cl.topB
    rw [List.length_cons, List.length_append, troot_len (all_take HWY.out.all _), troot_len (all_drop HWY.out.all _)]
    omega
   have HTB := Lib.hid (And.intro htb htl)
   have ct := ctop_any A2 n2 c2 ds wr (HS1.out.ss HL1.out.bel.size) HWY.out.all (by omega) (by omega) (HT.out.below (HB3.out.trans (HL1.out.bel.mono HB3.out.size)))
   rw [htb] at ct
   have CT := Lib.hid ct
   clear htb htl ct
   by_cases hlt : x < k0
   ·
    have hci : (x : Int) < (k0 : Int) := by omega
    have HDC := Lib.hid (show decide (k0 ≤ x) = false from decide_eq_false (by omega))
    go_wp2_with fail
    refine CT.out.mono ?_
    rintro e w4 ⟨A8, n8, c8, rfl, ho8, hb4⟩
    have HL4 := Lib.hid (HL1.out.keep hb4)
    have HO8 := Lib.hid (ho8.base HL1.out.bel.size)
    have HK4 := Lib.hid (hb4.mono HL1.out.bel.size)
    clear hb4 ho8
    go_wp2_with (at_builtin; refine wl_app1g rowsT (by omega) rfl (.tmp 52) (.tmp 55) rfl rfl HL4.out.h rfl (.slice A8 n8 c8) rfl (by omega) HL4.out.bel.size ?_; intro A4 c4 w5 g1 g2 g3 g4 g5; have HL5 := Lib.hid (HL4.out.addH ⟨A8, n8, c8, tb⟩ HO8.out HTB.out.2 g1 g2 g3 g4 g5); have HK5 := Lib.hid (HK4.out.trans g3); clear g1 g2 g3 g4 g5)
    refine (split_any (n2 : Int) w5 (by omega) (by omega)).mono ?_
    rintro e wz ⟨rfl, rfl⟩
    rw [HSP.out]
    go_wp2_with (first
     | (at_builtin; refine wl_app1g boolsT (by omega) rfl (.tmp 60) (.tmp 64) rfl rfl HL5.out.r rfl (.bool (decide (k0 ≤ x))) rfl (by omega) HL5.out.bel.size ?_; intro A6 c6 w6 g1 g2 g3 g4 g5; have HL6 := Lib.hid (show L1 w3 w6 A4 (nh + 1) c4 (ps ++ [⟨A8, n8, c8, tb⟩]) A6 (nr + 1) c6 (R ++ [false]) by have := HL5.out.addR (decide (k0 ≤ x)) g1 g2 g3 g4 g5; rw [HDC.out] at this; exact this); have HK6 := Lib.hid (HK5.out.trans g3); clear g1 g2 g3 g4 g5)
     | (refine wl_cutB_hi rfl (.tmp 69) (.tmp 70) rfl rfl (HS1.out.keep HK6.out) k0 rfl (by omega) ?_; intro A5 hs5))
    go_roundw
    case rel => exact ⟨A4, nh + 1, c4, ps ++ [⟨A8, n8, c8, tb⟩], A6, nr + 1, c6, R ++ [false], A5, k0, c2, ds.take k0, x, rfl, rfl, rfl, by go_num, by omega, by omega, by omega, HL6.out, hs5, by have := HWY.out.left (by rw [HS1.out.len]; omega) HK.out hlt; rw [List.map_append]; rw [HTB.out.1] at this; exact this⟩
    case measure => simp [lenS]; omega
   ·
    have hci : ¬ (x : Int) < (k0 : Int) := by omega
    have hck : (k0 : Int) ≤ (x : Int) := by omega
    have HDC := Lib.hid (show decide (k0 ≤ x) = true from decide_eq_true (by omega))
    go_wp2_with fail
    refine CT.out.mono ?_
    rintro e w4 ⟨A8, n8, c8, rfl, ho8, hb4⟩
    have HL4 := Lib.hid (HL1.out.keep hb4)
    have HO8 := Lib.hid (ho8.base HL1.out.bel.size)
    have HK4 := Lib.hid (hb4.mono HL1.out.bel.size)
    clear hb4 ho8
    go_wp2_with (at_builtin; refine wl_app1g rowsT (by omega) rfl (.tmp 52) (.tmp 55) rfl rfl HL4.out.h rfl (.slice A8 n8 c8) rfl (by omega) HL4.out.bel.size ?_; intro A4 c4 w5 g1 g2 g3 g4 g5; have HL5 := Lib.hid (HL4.out.addH ⟨A8, n8, c8, tb⟩ HO8.out HTB.out.2 g1 g2 g3 g4 g5); have HK5 := Lib.hid (HK4.out.trans g3); clear g1 g2 g3 g4 g5)
    refine (split_any (n2 : Int) w5 (by omega) (by omega)).mono ?_
    rintro e wz ⟨rfl, rfl⟩
    rw [HSP.out]
    go_wp2_with (first
     | (at_builtin; refine wl_app1g boolsT (by omega) rfl (.tmp 60) (.tmp 64) rfl rfl HL5.out.r rfl (.bool true) rfl (by omega) HL5.out.bel.size ?_; intro A6 c6 w6 g1 g2 g3 g4 g5; have HL6 := Lib.hid (show L1 w3 w6 A4 (nh + 1) c4 (ps ++ [⟨A8, n8, c8, tb⟩]) A6 (nr + 1) c6 (R ++ [true]) from HL5.out.addR true g1 g2 g3 g4 g5); have HK6 := Lib.hid (HK5.out.trans g3); clear g1 g2 g3 g4 g5)
     | (refine wl_cutB_lo rfl (.tmp 72) (.tmp 73) rfl rfl (HS1.out.keep HK6.out) k0 rfl (by omega) ?_; intro A5 hs5))
    go_roundw
    case rel => exact ⟨A4, nh + 1, c4, ps ++ [⟨A8, n8, c8, tb⟩], A6, nr + 1, c6, R ++ [true], A5, n2 - k0, c2 - k0, ds.drop k0, x - k0, rfl, rfl, rfl, by go_num, by omega, by omega, by omega, HL6.out, hs5, by have := HWY.out.right (by rw [HS1.out.len]; omega) HK.out hlt; rw [List.map_append]; rw [HTB.out.1] at this; exact this⟩
    case measure => simp [lenS]; omega
  ·
   obtain ⟨hR, hHd⟩ := hway.done (by rw [hsb.len]; omega)
   have HDN := Lib.hid (And.intro hR (hHd.trans HHH.out))
   clear hl1 hsb hway hR hHd
   have hnh' : nh = np := by
    have a := HL1.out.lenH
    have b := HWY.out.len
    rw [List.length_map, HDN.out.1] at b
    have := HSL.out
    omega
   have hnr' : nr = np := by
    have a := HL1.out.lenR
    rw [HDN.out.1] at a
    have := HSL.out
    omega
   have HNH := Lib.hid (And.intro hnh' hnr')
   have HXW := Lib.hid (HB3.out.trans (HL1.out.bel.mono HB3.out.size))
   have HR4 := Lib.hid (HR3.out.belowS HL1.out.bel (Nat.le_refl _))
   clear hnh' hnr'
   obtain ⟨wh, rfl⟩ : ∃ wh : World, wh = wr := ⟨_, rfl⟩
   go_wp2_with (at_make; refine wl_makeT rfl _ _ rfl (np + 1) (by go_num) (by go_num) (by omega) ?_; intro cs0 wm hcs0 hrw0 hbm0; have HRW := Lib.hid hrw0; have HCS := Lib.hid hcs0; have HBM0 := Lib.hid hbm0; clear hrw0 hbm0 hcs0)
   obtain ⟨tx, htx⟩ : ∃ tx, wh.heap.size = tx := ⟨_, rfl⟩
   have HTX := Lib.hid htx
   have HXM := Lib.hid (show w.heap.size ≤ tx by rw [← htx]; exact HXW.out.size)
   have HBM := Lib.hid (HXW.out.trans (HBM0.out.mono HXW.out.size))
   rw [htx] at HRW HBM0
   try rw [htx]
   refine (CL.out wm HBM.out).mono ?_
   rintro e w8 ⟨rfl, hb8⟩
   have HL20 := Lib.hid (show L2 wm w8 tx np cs0 np (Fn d0 S p) (Gn H) from ⟨HRW.out.belowS hb8 (Nat.le_refl _), HCS.out, (Below.refl _ _).trans (hb8.mono (Nat.le_of_lt HRW.out.lt)), fun t h1 h2 => by omega⟩)
   have HDAT := Lib.hid (show ∀ (t : Nat), t < np → ∃ (gh gr : Nat) (q : Piece), Ah = some ⟨gh, 0, none⟩ ∧ Ar = some ⟨gr, 0, none⟩ ∧ gr < tx ∧ ps[t]? = some q ∧ q.l.length ≤ 1000 ∧ (∀ W, Below tx wm W → W.cell? ⟨gh, t, none⟩ = some (.slice q.a q.n q.c) ∧ W.cell? ⟨gr, t, none⟩ = some (.bool (S.getD t false)) ∧ FrX W tx q.a q.n q.c q.l) from fun t ht => by
    obtain ⟨gh, e1, _, h2, h3⟩ := own_form0 HL1.out.h (by have := HNH.out.1; omega)
    obtain ⟨gr, e4, _, h5, h6⟩ := own_form0 HL1.out.r (by have := HNH.out.2; omega)
    obtain ⟨q, hq⟩ : ∃ q, ps[t]? = some q := ⟨_, List.getElem?_eq_getElem (by rw [HL1.out.lenH, HNH.out.1]; exact ht)⟩
    have hqp := HL1.out.pcs q (List.mem_of_getElem? hq)
    rw [HTX.out] at h2 h5
    refine ⟨gh, gr, q, e1, e4, h5, hq, hqp.2, fun W hW => ?_⟩
    have hWW := (HBM0.out).trans hW
    refine ⟨?_, ?_, ?_⟩
    ·
     rw [hWW.cell (p := ⟨gh, t, none⟩) h2]
     exact h3 t _ (by rw [List.getElem?_map, hq]; rfl)
    ·
     rw [hWW.cell (p := ⟨gr, t, none⟩) h5]
     refine h6 t _ ?_
     rw [List.getElem?_map, HDN.out.1, List.getD_eq_getElem?_getD, List.getElem?_eq_getElem (by rw [HSL.out]; exact ht)]; rfl
    ·
     have hrd := Rd.of_own hqp.1.own
     rw [HTX.out] at hrd
     exact FrX.ofRd (hrd.below hWW) (Nat.le_trans (by rw [← HTX.out]; exact Nat.le_refl _) hWW.size) hqp.1.len hqp.1.cap hqp.1.max)
   clear hb8 htx
   go_wp2_with fail
   go_loopw [19, 87] (fun vd vj wr => ∃ (j : Nat) (cs : Array Value) (d : List UInt8), j ≤ np ∧ vj = .int .i64 j ∧ vd = sv d ∧ L2 wm wr tx np cs (np - j) (Fn d0 S p) (Gn H) ∧ Hid (d = Tree.clb tnd tnil d0 (S.drop (np - j)) (p.take j)) ∧ d.length = 32) (fun _ vj _ => np - (intOf vj).toNat)
   case atStart => exact ⟨0, cs0, d0, by omega, rfl, rfl, HL20.out, Lib.hid (by rw [List.drop_eq_nil_of_le (by rw [HSL.out]; omega)]; rfl), hd32⟩
   case round =>
    obtain ⟨j, cs, d, hj, rfl, rfl, hl2, hde, h32d⟩ := hrel
    have HL2 := Lib.hid hl2
    have HSZ := Lib.hid hl2.row.lt
    clear hl2
    by_cases hlj : j < np
    ·
     obtain ⟨t, ht⟩ : ∃ t, t + j + 1 = np := ⟨np - 1 - j, by omega⟩
     have htl : t + 1 = np - j := by omega
     obtain ⟨bp, op, rfl, hbp, hcp, y, hy⟩ := HP.out.at (k := j) hlj
     have x0 := ((HBM.out.trans (HL2.out.bel.mono HXM.out)).cell (p := ⟨bp, op + j, none⟩) hbp).trans (hcp j y hy)
     obtain ⟨gh, gr, q, rfl, rfl, hgr, hq, hql, hdat⟩ := HDAT.out t (by omega)
     obtain ⟨s, hs⟩ : ∃ s, S[t]? = some s := ⟨_, List.getElem?_eq_getElem (by rw [HSL.out]; omega)⟩
     have hsd : S.getD t false = s := by rw [List.getD_eq_getElem?_getD, hs]; rfl
     have x1 := (hdat wr HL2.out.bel).2.1
     rw [hsd] at x1
     have h32y : y.length = 32 := HP32.out y (List.mem_of_getElem? hy)
     have HHC := Lib.hid (show ∀ W, Below wr.heap.size wr W → W.cell? ⟨gh, t, none⟩ = some (.slice q.a q.n q.c) from fun W hW => (hdat W (HL2.out.bel.trans (hW.mono (Nat.le_of_lt HSZ.out)))).1)
     have HPC := Lib.hid (show ∀ W, Below wr.heap.size wr W → FrX W tx q.a q.n q.c q.l from fun W hW => (hdat W (HL2.out.bel.trans (hW.mono (Nat.le_of_lt HSZ.out)))).2.2)
     have HQL := Lib.hid (show q.l.length ≤ 1000000 by omega)
     have hjS : S.length - 1 - t = j := by rw [HSL.out]; omega
     have HFT0 := Lib.hid (show Fn d0 S p t = Cl.nb s d y by
      unfold Fn
      rw [hsd, hjS, hde.out, show np - j = t + 1 by omega, List.getD_eq_getElem?_getD, hy]; rfl)
     have HGT := Lib.hid (show Gn H t = q.l by
      unfold Gn
      rw [← HDN.out.2, List.getD_eq_getElem?_getD, List.getElem?_map, hq]; rfl)
     have HNX := Lib.hid (Tree.clb_next tnd tnil d0 (S := S) (p := p) (j := j) (s := s) (x := y) (by rw [HSL.out, HP.out.len]) (by rw [HP.out.len]; exact hlj) (by rw [show S.length - 1 - j = t by rw [HSL.out]; omega]; exact hs) hy)
     have e1 : (np : Int) - 1 - (j : Int) = (t : Int) := by omega
     have hcapn := HL1.out.capH
     rw [maxLen_eq] at hcapn
     have htn : t < nh := by have := HNH.out.1; omega
     have htr : t < nr := by have := HNH.out.2; omega
     have hcs : cs.size = np + 1 := HL2.out.size
     have HDE := Lib.hid hde.out
     clear hcp hy hq hs hsd hdat hde
     cases s with
     | false =>
      have HFT := Lib.hid (show Fn d0 S p t = 1 :: (d ++ y) from HFT0.out)
      have HDN2 := Lib.hid (show tnd d y = Tree.clb tnd tnil d0 (S.drop (np - (j + 1))) (p.take (j + 1)) by
       have := HNX.out
       rw [HSL.out, ← HDE.out] at this
       exact this.symm)
      have QB := Lib.hid (show ∀ W, Below wr.heap.size wr W → Calls Tryz.prog 103 #[sv d, sv y] W (Ret8 W.heap.size (1 :: (d ++ y)) W) from fun W hW => (nodeBytes_any _ _ W (by omega) (by omega)).mono fun e w2 h => h.ret8)
      unfold Ret8 at QB
      have HLN2 := Lib.hid (show (1 :: (d ++ y) : List UInt8).length ≤ 1000000 ∧ q.l.length ≤ 1000000 from ⟨by rw [List.length_cons, List.length_append]; omega, HQL.out⟩)
      go_wp2_with fail
      refine Free.wp_free_l 17 (fun W => Below wr.heap.size wr W) [Free.kc (.slice (some ⟨tx, 0, none⟩) (np + 1) (np + 1)), Free.kc (.int .i64 (np : Int)), Free.kc (.int .i64 ((np : Int) - 1)), Free.kc (.int .i64 (j : Int)), Free.kc (.int .i64 (t : Int)), Free.kc (sv d), Free.kc (sv y), Free.kB (wr.heap.size) (1 :: (d ++ y)), Free.kc (.slice (some ⟨gh, 0, none⟩) nh ch), Free.kc (.int .i64 (np : Int)), Free.kc (.int .i64 ((np : Int) - 1)), Free.kc (.int .i64 (j : Int)), Free.kc (.int .i64 (t : Int)), Free.kc (.pointer (some ⟨gh, t, none⟩)), Free.kc (.slice q.a q.n q.c), Free.kP (tx) (1 :: (d ++ y)) (q.l), Free.kc (.pointer (some ⟨tx, t, none⟩))] (by kernel_rfl) (by kernel_rfl) (by decide) (Below.refl _ _).drew (fun w w' h g => bt h g) ?_ ?_
      ·
       iterate 17 refine Free.forall_succ ?_ ?_
       all_goals first | exact Free.forall_zero | (refine Free.op fun vals wq hC hd => ?_) | skip
       · exact Free.dm
       · exact Free.dm
       · exact Free.d_bin rfl (Free.tr 1 hd) (show _ = (Value.int .i64 1) from rfl) (by go_simp) (by first | (go_simp; done) | (go_simp; omega) | (go_simp; rw [IntWalk.i64_in _ (by omega)]; done) | (go_simp; rw [IntWalk.i64_in _ (by omega)]; omega)) rfl
       · exact Free.dm
       · exact Free.d_bin rfl (Free.tr 2 hd) (Free.tr 3 hd) (by go_simp) (by first | (go_simp; done) | (go_simp; omega) | (go_simp; rw [IntWalk.i64_in _ (by omega)]; done) | (go_simp; rw [IntWalk.i64_in _ (by omega)]; omega)) rfl
       · exact Free.dm
       · exact Free.dm
       · exact Free.d_call Tryz.func103 (by kernel_rfl) (by kernel_rfl) rfl rfl (Free.arg2 (Free.tr 5 hd) (Free.tr 6 hd)) ((QB.out wq hC).mono fun e w2 h => (by obtain ⟨A1, n1, c1, he, ho, hb⟩ := h; exact ⟨_, he, ⟨A1, n1, c1, rfl, ho.base hC.size⟩, hb⟩))
       · exact Free.dm
       · exact Free.dm
       · exact Free.d_bin rfl (Free.tr 9 hd) (show _ = (Value.int .i64 1) from rfl) (by go_simp) (by first | (go_simp; done) | (go_simp; omega) | (go_simp; rw [IntWalk.i64_in _ (by omega)]; done) | (go_simp; rw [IntWalk.i64_in _ (by omega)]; omega)) rfl
       · exact Free.dm
       · exact Free.d_bin rfl (Free.tr 10 hd) (Free.tr 11 hd) (by go_simp) (by first | (go_simp; done) | (go_simp; omega) | (go_simp; rw [IntWalk.i64_in _ (by omega)]; done) | (go_simp; rw [IntWalk.i64_in _ (by omega)]; omega)) rfl
       · exact Free.d_indexAddr rfl (Free.tr 8 hd) (Free.tr 12 hd) (run_idx0 66 Tryz.underlying66 (by kernel_rfl) gh nh ch t _ (by omega) (by omega)) rfl
       · exact Free.d_load rfl (Free.tr 13 hd) (by have hcc := HHC.out wq hC; go_simp) rfl
       · obtain ⟨A7, n7, k7, e7, ow7⟩ := hd 7 (by kernel_rfl); exact Free.d_call Tryz.func102 (by kernel_rfl) (by kernel_rfl) rfl rfl (Free.arg2 (Eq.trans (b := vals 7) (by kernel_rfl) e7) (Free.tr 14 hd)) ((pair_raw _ _ _ _ _ _ wq).mono fun e w2 h => (by obtain ⟨g1, g2, he, hg1, hg2, r1, r2, hb⟩ := h; exact ⟨_, he, ⟨_, rfl, Pend.mk ⟨g1, g2, _, _, _, _, _, _, rfl, by have := hC.size; have := HSZ.out; omega, by have := hC.size; have := HSZ.out; omega, r1, r2, (FrX.of8 ow7 HSZ.out).keep hb, (HPC.out wq hC).keep hb, HLN2.out⟩⟩, hb⟩))
       · exact Free.d_indexAddr rfl (Free.tr 0 hd) (Free.tr 4 hd) (run_idx0 137 Tryz.underlying137 (by kernel_rfl) tx (np + 1) (np + 1) t _ (by omega) (by omega)) rfl
      ·
       intro vals wq hC hd
       refine Free.go hd ?_
       rintro _ rfl _ rfl _ rfl _ rfl _ rfl _ rfl _ rfl _ ⟨A7, n7, k7, rfl, ow7⟩ _ rfl _ rfl _ rfl _ rfl _ rfl _ rfl _ rfl v15 ⟨_, rfl, pd15⟩ _ rfl
       simp only [Free.All, Free.fl, Act.put, Free.sa, Free.s0, Free.s1]
       clear hd
       obtain ⟨b1, b2, hv15⟩ : ∃ b1 b2, v15 = .func (.func 131) #[] #[.pointer (some ⟨b1, 0, none⟩), .pointer (some ⟨b2, 0, none⟩)] := by
        obtain ⟨g1, g2, _, _, _, _, _, _, e, _⟩ := pd15.ex
        exact ⟨g1, g2, e⟩
       subst hv15
       have hl2 := HL2.out.keep hC
       obtain ⟨old, hold⟩ : ∃ v, cs[t]? = some v := ⟨_, Array.getElem?_eq_getElem (by rw [hl2.size]; omega)⟩
       have z0 := hl2.row.cellQ t _ hold
       have z1 := hl2.row.frozen t
       have HS2 := Lib.hid (hl2.set htl (show Pend wq tx _ (Fn d0 S p t) (Gn H t) by rw [HFT.out, HGT.out]; exact pd15))
       have HBC := Lib.hid hC
       clear hl2 hC ow7 pd15 hold
       go_wp2_with fail
       obtain ⟨wd, hwd⟩ : ∃ wd, wq.setCell ⟨tx, t, none⟩ (.func (.func 131) #[] #[.pointer (some ⟨b1, 0, none⟩), .pointer (some ⟨b2, 0, none⟩)]) = wd := ⟨_, rfl⟩
       rw [hwd] at HS2 ⊢
       clear hwd
       refine (xnode_any d y wd (by assumption) (by assumption) (HT.out.below (HBM.out.trans (HS2.out.bel.mono HXM.out)))).mono ?_
       rintro e w5 ⟨rfl, hb5⟩
       have HS5 := Lib.hid (HS2.out.keep hb5)
       clear hb5
       go_wp2
       go_roundw
       case rel => exact ⟨j + 1, _, _, by omega, by go_num, rfl, by rw [show np - (j + 1) = t by omega]; exact HS5.out, HDN2, tnd_len _ _⟩
       case measure => simp [intOf]; omega
     | true =>
      have HFT := Lib.hid (show Fn d0 S p t = 1 :: (y ++ d) from HFT0.out)
      have HDN2 := Lib.hid (show tnd y d = Tree.clb tnd tnil d0 (S.drop (np - (j + 1))) (p.take (j + 1)) by
       have := HNX.out
       rw [HSL.out, ← HDE.out] at this
       exact this.symm)
      have QB := Lib.hid (show ∀ W, Below wr.heap.size wr W → Calls Tryz.prog 103 #[sv y, sv d] W (Ret8 W.heap.size (1 :: (y ++ d)) W) from fun W hW => (nodeBytes_any _ _ W (by omega) (by omega)).mono fun e w2 h => h.ret8)
      unfold Ret8 at QB
      have HLN2 := Lib.hid (show (1 :: (y ++ d) : List UInt8).length ≤ 1000000 ∧ q.l.length ≤ 1000000 from ⟨by rw [List.length_cons, List.length_append]; omega, HQL.out⟩)
      go_wp2_with fail
      refine Free.wp_free_l 17 (fun W => Below wr.heap.size wr W) [Free.kc (.slice (some ⟨tx, 0, none⟩) (np + 1) (np + 1)), Free.kc (.int .i64 (np : Int)), Free.kc (.int .i64 ((np : Int) - 1)), Free.kc (.int .i64 (j : Int)), Free.kc (.int .i64 (t : Int)), Free.kc (sv y), Free.kc (sv d), Free.kB (wr.heap.size) (1 :: (y ++ d)), Free.kc (.slice (some ⟨gh, 0, none⟩) nh ch), Free.kc (.int .i64 (np : Int)), Free.kc (.int .i64 ((np : Int) - 1)), Free.kc (.int .i64 (j : Int)), Free.kc (.int .i64 (t : Int)), Free.kc (.pointer (some ⟨gh, t, none⟩)), Free.kc (.slice q.a q.n q.c), Free.kP (tx) (1 :: (y ++ d)) (q.l), Free.kc (.pointer (some ⟨tx, t, none⟩))] (by kernel_rfl) (by kernel_rfl) (by decide) (Below.refl _ _).drew (fun w w' h g => bt h g) ?_ ?_
      ·
       iterate 17 refine Free.forall_succ ?_ ?_
       all_goals first | exact Free.forall_zero | (refine Free.op fun vals wq hC hd => ?_) | skip
       · exact Free.dm
       · exact Free.dm
       · exact Free.d_bin rfl (Free.tr 1 hd) (show _ = (Value.int .i64 1) from rfl) (by go_simp) (by first | (go_simp; done) | (go_simp; omega) | (go_simp; rw [IntWalk.i64_in _ (by omega)]; done) | (go_simp; rw [IntWalk.i64_in _ (by omega)]; omega)) rfl
       · exact Free.dm
       · exact Free.d_bin rfl (Free.tr 2 hd) (Free.tr 3 hd) (by go_simp) (by first | (go_simp; done) | (go_simp; omega) | (go_simp; rw [IntWalk.i64_in _ (by omega)]; done) | (go_simp; rw [IntWalk.i64_in _ (by omega)]; omega)) rfl
       · exact Free.dm
       · exact Free.dm
       · exact Free.d_call Tryz.func103 (by kernel_rfl) (by kernel_rfl) rfl rfl (Free.arg2 (Free.tr 5 hd) (Free.tr 6 hd)) ((QB.out wq hC).mono fun e w2 h => (by obtain ⟨A1, n1, c1, he, ho, hb⟩ := h; exact ⟨_, he, ⟨A1, n1, c1, rfl, ho.base hC.size⟩, hb⟩))
       · exact Free.dm
       · exact Free.dm
       · exact Free.d_bin rfl (Free.tr 9 hd) (show _ = (Value.int .i64 1) from rfl) (by go_simp) (by first | (go_simp; done) | (go_simp; omega) | (go_simp; rw [IntWalk.i64_in _ (by omega)]; done) | (go_simp; rw [IntWalk.i64_in _ (by omega)]; omega)) rfl
       · exact Free.dm
       · exact Free.d_bin rfl (Free.tr 10 hd) (Free.tr 11 hd) (by go_simp) (by first | (go_simp; done) | (go_simp; omega) | (go_simp; rw [IntWalk.i64_in _ (by omega)]; done) | (go_simp; rw [IntWalk.i64_in _ (by omega)]; omega)) rfl
       · exact Free.d_indexAddr rfl (Free.tr 8 hd) (Free.tr 12 hd) (run_idx0 66 Tryz.underlying66 (by kernel_rfl) gh nh ch t _ (by omega) (by omega)) rfl
       · exact Free.d_load rfl (Free.tr 13 hd) (by have hcc := HHC.out wq hC; go_simp) rfl
       · obtain ⟨A7, n7, k7, e7, ow7⟩ := hd 7 (by kernel_rfl); exact Free.d_call Tryz.func102 (by kernel_rfl) (by kernel_rfl) rfl rfl (Free.arg2 (Eq.trans (b := vals 7) (by kernel_rfl) e7) (Free.tr 14 hd)) ((pair_raw _ _ _ _ _ _ wq).mono fun e w2 h => (by obtain ⟨g1, g2, he, hg1, hg2, r1, r2, hb⟩ := h; exact ⟨_, he, ⟨_, rfl, Pend.mk ⟨g1, g2, _, _, _, _, _, _, rfl, by have := hC.size; have := HSZ.out; omega, by have := hC.size; have := HSZ.out; omega, r1, r2, (FrX.of8 ow7 HSZ.out).keep hb, (HPC.out wq hC).keep hb, HLN2.out⟩⟩, hb⟩))
       · exact Free.d_indexAddr rfl (Free.tr 0 hd) (Free.tr 4 hd) (run_idx0 137 Tryz.underlying137 (by kernel_rfl) tx (np + 1) (np + 1) t _ (by omega) (by omega)) rfl
      ·
       intro vals wq hC hd
       refine Free.go hd ?_
       rintro _ rfl _ rfl _ rfl _ rfl _ rfl _ rfl _ rfl _ ⟨A7, n7, k7, rfl, ow7⟩ _ rfl _ rfl _ rfl _ rfl _ rfl _ rfl _ rfl v15 ⟨_, rfl, pd15⟩ _ rfl
       simp only [Free.All, Free.fl, Act.put, Free.sa, Free.s0, Free.s1]
       clear hd
       obtain ⟨b1, b2, hv15⟩ : ∃ b1 b2, v15 = .func (.func 131) #[] #[.pointer (some ⟨b1, 0, none⟩), .pointer (some ⟨b2, 0, none⟩)] := by
        obtain ⟨g1, g2, _, _, _, _, _, _, e, _⟩ := pd15.ex
        exact ⟨g1, g2, e⟩
       subst hv15
       have hl2 := HL2.out.keep hC
       obtain ⟨old, hold⟩ : ∃ v, cs[t]? = some v := ⟨_, Array.getElem?_eq_getElem (by rw [hl2.size]; omega)⟩
       have z0 := hl2.row.cellQ t _ hold
       have z1 := hl2.row.frozen t
       have HS2 := Lib.hid (hl2.set htl (show Pend wq tx _ (Fn d0 S p t) (Gn H t) by rw [HFT.out, HGT.out]; exact pd15))
       have HBC := Lib.hid hC
       clear hl2 hC ow7 pd15 hold
       go_wp2_with fail
       obtain ⟨wd, hwd⟩ : ∃ wd, wq.setCell ⟨tx, t, none⟩ (.func (.func 131) #[] #[.pointer (some ⟨b1, 0, none⟩), .pointer (some ⟨b2, 0, none⟩)]) = wd := ⟨_, rfl⟩
       rw [hwd] at HS2 ⊢
       clear hwd
       refine (xnode_any y d wd (by assumption) (by assumption) (HT.out.below (HBM.out.trans (HS2.out.bel.mono HXM.out)))).mono ?_
       rintro e w5 ⟨rfl, hb5⟩
       have HS5 := Lib.hid (HS2.out.keep hb5)
       clear hb5
       go_wp2
       go_roundw
       case rel => exact ⟨j + 1, _, _, by omega, by go_num, rfl, by rw [show np - (j + 1) = t by omega]; exact HS5.out, HDN2, tnd_len _ _⟩
       case measure => simp [intOf]; omega
    ·
     obtain rfl : np = j := by omega
     have hl20 : L2 wm wr tx np cs 0 (Fn d0 S p) (Gn H) := by
      have := HL2.out
      rw [Nat.sub_self] at this
      exact this
     have HL3 := Lib.hid hl20
     obtain ⟨gl, ol, rfl, hgl, hrl⟩ := HRO.out (by omega)
     have hcl := hrl i hi
     rw [HLI.out] at hcl
     have hbw := HBM.out.trans (hl20.bel.mono HXM.out)
     have HLC := Lib.hid (show ∀ W, Below wr.heap.size wr W → W.cell? ⟨gl, ol + i, none⟩ = some (.slice li.a li.n li.c) from fun W hW => ((bt hbw hW).cell (p := ⟨gl, ol + i, none⟩) hgl).trans hcl.1)
     have hsl : li.n ≤ 1000 := by rw [← HLI.out]; exact HSM.out i hi
     have QL1 := Lib.hid (show ∀ W, Below wr.heap.size wr W → Calls Tryz.prog 92 #[.slice Ax nx cx] W (Ret8 W.heap.size (0 :: leaf) W) from fun W hW => (leafBytes_any Ax nx cx leaf W (HX.out.keep (bt hbw hW)).rd HX.out.len HX.out.cap HX.out.max (by omega)).mono fun e w2 h => h.ret8)
     have hpk : ∀ W, Below wr.heap.size wr W → Rd W W.heap.size li.a (li.l.map bv) := fun W hW => (hcl.2.rd.below' (bt hbw hW) (Nat.le_refl _)).more (bt hbw hW).size
     have QL2 := Lib.hid (show ∀ W, Below wr.heap.size wr W → Calls Tryz.prog 92 #[.slice li.a li.n li.c] W (Ret8 W.heap.size (0 :: li.l) W) from fun W hW => (leafBytes_any li.a li.n li.c li.l W (hpk W hW) hcl.2.len hcl.2.cap hcl.2.max (by omega)).mono fun e w2 h => h.ret8)
     unfold Ret8 at QL1 QL2
     have HLN2 := Lib.hid (show (0 :: leaf : List UInt8).length ≤ 1000000 ∧ (0 :: li.l : List UInt8).length ≤ 1000000 from ⟨by rw [List.length_cons, HX.out.len]; omega, by rw [List.length_cons, hcl.2.len]; omega⟩)
     have hcs : cs.size = np + 1 := hl20.size
     clear hl20 hrl hcl hbw hpk hde
     go_wp2_with fail
     refine Free.wp_free_l 11 (fun W => Below wr.heap.size wr W) [Free.kc (.slice (some ⟨tx, 0, none⟩) (np + 1) (np + 1)), Free.kc (.int .i64 (np : Int)), Free.kc (.slice Ax nx cx), Free.kB (wr.heap.size) (0 :: leaf), Free.kc (.slice (some ⟨gl, ol, none⟩) nl cl), Free.kc (.int .i64 (i : Int)), Free.kc (.pointer (some ⟨gl, ol + i, none⟩)), Free.kc (.slice li.a li.n li.c), Free.kB (wr.heap.size) (0 :: li.l), Free.kP (tx) (0 :: leaf) (0 :: li.l), Free.kc (.pointer (some ⟨tx, np, none⟩))] (by kernel_rfl) (by kernel_rfl) (by decide) (Below.refl _ _).drew (fun w w' h g => bt h g) ?_ ?_
     ·
      iterate 11 refine Free.forall_succ ?_ ?_
      all_goals first | exact Free.forall_zero | (refine Free.op fun vals wq hC hd => ?_) | skip
      · exact Free.dm
      · exact Free.dm
      · exact Free.dm
      · exact Free.d_call Tryz.func92 (by kernel_rfl) (by kernel_rfl) rfl rfl (Free.arg1 (Free.tr 2 hd)) ((QL1.out wq hC).mono fun e w2 h => (by obtain ⟨A1, n1, c1, he, ho, hb⟩ := h; exact ⟨_, he, ⟨A1, n1, c1, rfl, ho.base hC.size⟩, hb⟩))
      · exact Free.dm
      · exact Free.dm
      · exact Free.d_indexAddr rfl (Free.tr 4 hd) (Free.tr 5 hd) (run_idx 66 Tryz.underlying66 (by kernel_rfl) gl ol nl cl i _ (by omega) (by omega)) rfl
      · exact Free.d_load rfl (Free.tr 6 hd) (by have hcc := HLC.out wq hC; go_simp) rfl
      · exact Free.d_call Tryz.func92 (by kernel_rfl) (by kernel_rfl) rfl rfl (Free.arg1 (Free.tr 7 hd)) ((QL2.out wq hC).mono fun e w2 h => (by obtain ⟨A1, n1, c1, he, ho, hb⟩ := h; exact ⟨_, he, ⟨A1, n1, c1, rfl, ho.base hC.size⟩, hb⟩))
      · obtain ⟨A3, n3, k3, e3, ow3⟩ := hd 3 (by kernel_rfl); obtain ⟨A8, n8, k8, e8, ow8⟩ := hd 8 (by kernel_rfl); exact Free.d_call Tryz.func102 (by kernel_rfl) (by kernel_rfl) rfl rfl (Free.arg2 (Eq.trans (b := vals 3) (by kernel_rfl) e3) (Eq.trans (b := vals 8) (by kernel_rfl) e8)) ((pair_raw _ _ _ _ _ _ wq).mono fun e w2 h => (by obtain ⟨g1, g2, he, hg1, hg2, r1, r2, hb⟩ := h; exact ⟨_, he, ⟨_, rfl, Pend.mk ⟨g1, g2, _, _, _, _, _, _, rfl, by have := hC.size; have := HSZ.out; omega, by have := hC.size; have := HSZ.out; omega, r1, r2, (FrX.of8 ow3 HSZ.out).keep hb, (FrX.of8 ow8 HSZ.out).keep hb, HLN2.out⟩⟩, hb⟩))
      · exact Free.d_indexAddr rfl (Free.tr 0 hd) (Free.tr 1 hd) (run_idx0 137 Tryz.underlying137 (by kernel_rfl) tx (np + 1) (np + 1) np _ (by omega) (by omega)) rfl
     ·
      intro vals wq hC hd
      refine Free.go hd ?_
      rintro _ rfl _ rfl _ rfl _ ⟨A3, n3, k3, rfl, ow3⟩ _ rfl _ rfl _ rfl _ rfl _ ⟨A8, n8, k8, rfl, ow8⟩ v9 ⟨_, rfl, pd9⟩ _ rfl
      simp only [Free.All, Free.fl, Act.put, Free.sa, Free.s0, Free.s1]
      clear hd
      obtain ⟨b1, b2, hv9⟩ : ∃ b1 b2, v9 = .func (.func 131) #[] #[.pointer (some ⟨b1, 0, none⟩), .pointer (some ⟨b2, 0, none⟩)] := by
       obtain ⟨g1, g2, _, _, _, _, _, _, e, _⟩ := pd9.ex
       exact ⟨g1, g2, e⟩
      subst hv9
      obtain ⟨fv, hfv⟩ : ∃ v : Value, v = .func (.func 131) #[] #[.pointer (some ⟨b1, 0, none⟩), .pointer (some ⟨b2, 0, none⟩)] := ⟨_, rfl⟩
      have hl2 := HL3.out.keep hC
      obtain ⟨old, hold⟩ : ∃ v, cs[np]? = some v := ⟨_, Array.getElem?_eq_getElem (by rw [hl2.size]; omega)⟩
      have z0 := hl2.row.cellQ np _ hold
      have z1 := hl2.row.frozen np
      rw [← hfv] at pd9
      have hbd : Below tx wm (wq.setCell ⟨tx, np, none⟩ fv) := hl2.bel.setCell (Nat.le_refl _) _
      have htabs : Tabs (wq.setCell ⟨tx, np, none⟩ fv) := HT.out.below (HBM.out.trans (hbd.mono HXM.out))
      have hrowd := hl2.row.set np fv
      have htry : ∀ (k : Nat) v r, (cs.setIfInBounds np fv).toList[k]? = some v → rs[k]? = some r → Try (wq.setCell ⟨tx, np, none⟩ fv) v r := fun k v r hv hr => by
       rw [Array.getElem?_toList] at hv
       have hk : k < np + 1 := by
        have := (List.getElem?_eq_some_iff.1 hr).1
        rw [HRS.out.1] at this
        exact this
       by_cases e : k = np
       ·
        subst e
        rw [Array.getElem?_setIfInBounds_self_of_lt (by rw [hl2.size]; omega)] at hv
        injection hv with hv
        rw [HRS.out.2.2] at hr
        injection hr with hr
        rw [← hv, ← hr]
        exact (pd9.set k fv).try htabs
       ·
        rw [Array.getElem?_setIfInBounds_ne (by omega)] at hv
        obtain ⟨u, e2, hp⟩ := hl2.pend k (by omega) (by omega)
        rw [e2] at hv
        injection hv with hv
        rw [HRS.out.2.1 k (by omega)] at hr
        injection hr with hr
        rw [← hv, ← hr]
        exact (hp.set np fv).try htabs
      have hszd : (cs.setIfInBounds np fv).size = np + 1 := by rw [Array.size_setIfInBounds]; exact hl2.size
      have hrd : Rd (wq.setCell ⟨tx, np, none⟩ fv) (wq.setCell ⟨tx, np, none⟩ fv).heap.size (some ⟨tx, 0, none⟩) (cs.setIfInBounds np fv).toList := fun _ => ⟨tx, 0, rfl, hrowd.lt, fun k v hv => by
       rw [Nat.zero_add]
       rw [Array.getElem?_toList] at hv
       exact hrowd.cellQ k v hv⟩
      have hfirst := first_any (some ⟨tx, 0, none⟩) (np + 1) (np + 1) (cs.setIfInBounds np fv).toList rs (wq.setCell ⟨tx, np, none⟩ fv) hrd (by rw [Array.length_toList]; exact hszd) HRS.out.1 (Nat.le_refl _) (by rw [maxLen_eq]; omega) htry
      have hlt0 : w.heap.size < tx := by rw [← HTX.out]; exact HR4.out.lt
      have hres0 := (((HR4.out).below HBM0.out hlt0).below hbd hlt0)
      have hbwd := HBM.out.trans (hbd.mono HXM.out)
      have hszlt : tx < (wq.setCell ⟨tx, np, none⟩ fv).heap.size := hrowd.lt
      obtain ⟨wd, hwd0⟩ : ∃ wd, wq.setCell ⟨tx, np, none⟩ fv = wd := ⟨_, rfl⟩
      have HWD0 := Lib.hid hwd0
      rw [hwd0] at hfirst hres0 hbwd hszlt
      have HFI := Lib.hid hfirst
      have HRES0 := Lib.hid hres0
      have HBWD := Lib.hid hbwd
      have HLT := Lib.hid (show w.heap.size < wd.heap.size by omega)
      subst hfv
      clear hwd0 hfirst hres0 hbwd hszlt hlt0 hrd hszd htry hrowd htabs hbd hl2 hold hC ow3 ow8 pd9
      go_wp2_with fail
      rw [HWD0.out]
      refine HFI.out.mono ?_
      rintro e w9 ⟨A1, n1, c1, B1, m1, k1, rfl, hf1, hf2, hb9⟩
      have hres := Row.belowS HRES0.out hb9 (Nat.le_refl _)
      have x0 := hres.cellQ 0 _ rfl
      have x1 := hres.cellQ 1 _ rfl
      have f0 := hres.frozen 0
      have f1 := hres.frozen 1
      have HROW := Lib.hid (show ∀ u v, Row (setFrom w.heap.size w9 0 [u, v]) w.heap.size #[u, v] 52 from fun u v => hres.all [u, v] rfl)
      have HF9 := Lib.hid (And.intro hf1 hf2)
      have HB9 := Lib.hid (bt HBWD.out hb9)
      clear hres hf1 hf2 hb9 z0 z1
      go_wp2
      generalize hwd : World.setCell (World.setCell w9 _ _) _ _ = wd
      have hsf : setFrom w.heap.size w9 0 [.slice A1 n1 c1, .slice B1 m1 k1] = wd := by rw [← hwd]; rfl
      have r0 : wd.cell? ⟨w.heap.size, 0, none⟩ = some (.slice A1 n1 c1) := by rw [← hsf]; exact (HROW.out _ _).cellQ 0 _ rfl
      have r1 : wd.cell? ⟨w.heap.size, 1, none⟩ = some (.slice B1 m1 k1) := by rw [← hsf]; exact (HROW.out _ _).cellQ 1 _ rfl
      refine bodyPost_ret (v := .tuple #[.agg #[.slice A1 n1 c1, .slice B1 m1 k1], .bool (firstOf rs).isSome]) (by simp [results, Tryz.results57, go_sem, r0, r1]) rfl ?_
      exact ⟨A1, n1, c1, B1, m1, k1, rfl, by rw [← hsf]; exact (HF9.out.1.set HLT.out _ 0).base (Nat.le_of_lt HLT.out), by rw [← hsf]; exact (HF9.out.2.set HLT.out _ 0).base (Nat.le_of_lt HLT.out), by rw [← hsf]; exact below_setFrom (Nat.le_refl _) _ 0 HB9.out⟩
end Go.Proofs.YteoledjllpgcbaaGreatDoor
