/- MClashA: several texts of this claim in one file. No statement of the seat is proved here. -/
import Derived.Test.YteoledjllpgcbaaGreatDoorMClash
import Derived.Test.YteoledjllpgcbaaGreatDoorMSealA
import Derived.Test.YteoledjllpgcbaaGreatDoorMTreeC
import Derived.Deep.OwnRows
import Derived.Laws.EntriesVeiled
namespace Go.Proofs.YteoledjllpgcbaaGreatDoor
set_option maxRecDepth 100000
set_option linter.unusedVariables false
open Go.RowKit

theorem wl_callv' {P : Program} {ops : Array Oper} {rest : List Oper} {o : Oper} {a : Act} {Q : Exit → Act → World → Prop} {w : World} (hgd : o.guard = none) {t : Tmp} {xs : Array Operand} {ts : Array TypeId} (ho : o.op = .call { callee := .value (.tmp t), args := xs, argTypes := ts })
    {f : FuncId} {caps : Array Value} {fn : Func} (hv : a.eval (.tmp t) = .func (.func f) #[] caps) (hfn : P.funcs[f]? = some fn) (hname : (fn.name == "runtime.NumGoroutine") = false) (hbody : fn.body.isNone = false) {args : Array Value} (hx : xs.map a.eval = args)
    (hc : Calls P f (args ++ caps) w fun e w' => ∃ v, e = .returned v ∧ wpList P ops Q rest (a.put o.dst v) w' ∧ Below w.heap.size w w') : wpList P ops Q (o :: rest) a w := by
  refine wpList_plain hgd fun K hK => Free.wp_of_step (V := fun v w' => wpList P ops Q rest (a.put o.dst v) w') ?_ fun v w' h _ => hK _ _ h
  have hr : ((execOp a.eval o).run P w) = .ok (.enter f (args ++ caps)) w := by
    have hn : ¬ fn.name = "runtime.NumGoroutine" := by simpa using hname
    have hb : ¬ fn.body = none := fun e => by rw [e] at hbody; cases hbody
    have h1 : (callFunc f (args ++ caps)).run P w = .ok (.enter f (args ++ caps)) w := by simp [callFunc, hfn, hn, hb]
    simp [execOp, ho, hx, hv, resolve, invoke, Deferred.ofValue, h1]
  rw [hr]
  exact ⟨Below.refl _ _, hc⟩
/-- A slice of bytes of the call's own, as what a drawn operation leaves. -/
def Free.kB (B : Nat) (l : List UInt8) : Free.SV := ⟨fun v w => ∃ A n c, v = .slice A n c ∧ Own8 w B A n c l, fun v w w' ⟨A, n, c, h1, h2⟩ g => ⟨A, n, c, h1, h2.keep g⟩⟩
/-- Bytes that lie in a block from L on. -/
structure Fr (w : World) (L : Nat) (A : Option Addr) (n c : Nat) (l : List UInt8) : Prop where
  rd : Rd w w.heap.size A (l.map bv)
  low : l ≠ [] → ∃ b off, A = some ⟨b, off, none⟩ ∧ L ≤ b
  len : l.length = n
  cap : n ≤ c
  max : c ≤ maxLen
section
variable {w w' : World} {L L' n c : Nat} {A : Option Addr} {l : List UInt8}
theorem Fr.keep (h : Fr w L A n c l) (hb : Below w.heap.size w w') : Fr w' L A n c l := ⟨(h.rd.below' hb (Nat.le_refl _)).more hb.size, h.low, h.len, h.cap, h.max⟩
theorem Fr.base (h : Fr w L A n c l) (hL : L' ≤ L) : Fr w L' A n c l := ⟨h.rd, fun hl => by obtain ⟨b, off, e, hb⟩ := h.low hl; exact ⟨b, off, e, Nat.le_trans hL hb⟩, h.len, h.cap, h.max⟩
theorem Fr.nil (w : World) (L : Nat) : Fr w L none 0 0 [] := ⟨Rd.nil, fun h => absurd rfl h, rfl, Nat.le_refl _, Nat.zero_le _⟩
theorem Fr.of8 (h : Own8 w L A n c l) : Fr w L A n c l := ⟨Rd.of_own h.own, fun hl => by
  rcases h.own.2 with ⟨hv, h0⟩ | ⟨g, cap, cur, hv, h1, h2, _⟩
  · have := h.len
    rw [h0] at this
    exact absurd (List.length_eq_zero_iff.1 this) hl
  · simp only [Value.slice.injEq, true_and] at hv
    exact ⟨g, 0, hv.1, h1⟩, h.len, h.cap, h.max⟩
theorem Fr.set (h : Fr w L A n c l) {b : Nat} (hb : b < L) (vs : List Value) (k : Nat) : Fr (setFrom b w k vs) L A n c l := by
  refine ⟨fun hn => ?_, h.low, h.len, h.cap, h.max⟩
  obtain ⟨b1, off, rfl, hlt, hc⟩ := h.rd hn
  obtain ⟨b2, off2, e, hL⟩ := h.low (fun e => hn (by rw [e]; rfl))
  simp only [Option.some.injEq, Addr.mk.injEq, and_true] at e
  refine ⟨b1, off, rfl, by rw [size_setFrom]; exact hlt, fun j v hv => ?_⟩
  rw [← hc j v hv]
  exact World.cell?_of_block (heap_setFrom (show b1 ≠ b by omega) vs w k)
end
def cl1 (r : Option (List UInt8 × List UInt8)) : List UInt8 := (r.map (·.1)).getD []
def cl2 (r : Option (List UInt8 × List UInt8)) : List UInt8 := (r.map (·.2)).getD []
/-- What a search for a clash tells. -/
def ResPost (L : Nat) (r : Option (List UInt8 × List UInt8)) (w : World) (e : Ending) (w' : World) : Prop :=
  ∃ A n c B m k, e = .returned (.tuple #[.agg #[.slice A n c, .slice B m k], .bool r.isSome]) ∧ Fr w' L A n c (cl1 r) ∧ Fr w' L B m k (cl2 r) ∧ Below w.heap.size w w'
set_option maxRecDepth 100000 in
set_option maxHeartbeats 4000000 in
theorem betw_yes (A : Option Addr) (n c : Nat) (B : Option Addr) (m k : Nat) (a b : List UInt8) (w : World) (hA : Rd w w.heap.size A (a.map bv)) (hl : a.length = n) (hc : n ≤ c) (hm : c ≤ maxLen) (hn : n ≤ 1000000)
    (hB : Rd w w.heap.size B (b.map bv)) (hr : b.length = m) (hk : m ≤ k) (hk2 : k ≤ maxLen) (hn2 : m ≤ 1000000) (ht : Tabs w) (hyes : clashB a b = true) :
    Calls Tryz.prog 106 #[.slice A n c, .slice B m k] w (ResPost w.heap.size (Cl.btw a b) w) := by
  have c1 := fun (W : World) (h : Below w.heap.size w W) => clone_any A n c a W (hA.below' h (Nat.le_refl _) |>.more h.size) hl hc hm (by omega)
  have c2 := fun (W : World) (h : Below w.heap.size w W) => clone_any B m k b W (hB.below' h (Nat.le_refl _) |>.more h.size) hr hk hk2 (by omega)
  have C1 := Lib.hid c1
  have C2 := Lib.hid c2
  have HT := Lib.hid ht
  have HY := Lib.hid hyes
  have HL := Lib.hid (And.intro hl hr)
  clear c1 c2 hA hB hl hr hc hm hk hk2 ht hyes
  have HBT := Lib.hid (show Cl.btw a b = some (a, b) by unfold Cl.btw; rw [if_pos HY.out])
  go_enter Tryz.func106, Tryz.ntmps106
  go_wp2_with fail
  refine (C1.out _ ((Below.refl _ w).alloc (Nat.le_refl _) _)).mono ?_
  rintro e w1 ⟨A1, c1, rfl, hr1, hc1, hc1', hb1⟩
  have hres := Row.belowS (row_new w _ _) hb1 (Nat.le_refl _)
  have HB1 := Lib.hid (bt ((Below.refl _ w).alloc (Nat.le_refl _) _) hb1)
  have HRES := Lib.hid hres
  have ho1 := own_base hr1 (show w.heap.size + 1 ≤ _ by unfold World.alloc; simp)
  have HR1 := Lib.hid (And.intro ho1 (And.intro hc1 hc1'))
  clear hr1 ho1 hc1 hc1' hb1 hres
  go_wp2_with fail
  refine (C2.out _ HB1.out).mono ?_
  rintro e w2 ⟨B1, k1, rfl, hr2, hk1, hk1', hb2⟩
  have HB2 := Lib.hid (bt HB1.out hb2)
  have HRES2 := Lib.hid (Row.belowS HRES.out hb2 (Nat.le_refl _))
  have ho2 := own_base hr2 (show w.heap.size + 1 ≤ w1.heap.size from HRES.out.lt)
  have HR2 := Lib.hid (And.intro (own_keep HR1.out.1 hb2 (Nat.le_refl _)) (And.intro ho2 (And.intro hk1 hk1')))
  clear hr2 ho2 hk1 hk1' hb2
  go_wp2_with fail
  have hb3 : Below w2.heap.size w2 (w2.alloc (.cells #[.slice A1 n c1, .slice B1 m k1] 52)) := (Below.refl _ w2).alloc (Nat.le_refl _) _
  refine Calls.mono (show Calls Tryz.prog 22 #[.agg #[.slice A1 n c1, .slice B1 m k1]] (w2.alloc (.cells #[.slice A1 n c1, .slice B1 m k1] 52)) (BoolPost (clashB a b) _) from is_any A1 n c1 B1 m k1 a b _ (((Rd.of_own HR2.out.1).below' hb3 (Nat.le_refl _)).more hb3.size) HL.out.1 HR1.out.2.1 HR1.out.2.2 hn (((Rd.of_own HR2.out.2.1).below' hb3 (Nat.le_refl _)).more hb3.size) HL.out.2 HR2.out.2.2.1 HR2.out.2.2.2 hn2 (HT.out.below (bt HB2.out hb3))) ?_
  rintro e w4 ⟨rfl, hb4⟩
  rw [HY.out]
  have hb24 := bt hb3 hb4
  have HB4 := Lib.hid (bt HB2.out hb24)
  have hbox := Row.belowS (row_new w2 _ _) hb4 (Nat.le_refl _)
  have hres := Row.belowS HRES2.out hb24 (Nat.le_refl _)
  have x0 := hres.cellQ 0 _ rfl
  have x1 := hres.cellQ 1 _ rfl
  have z0 := hres.frozen 0
  have z1 := hres.frozen 1
  have y0 := hbox.cellQ 0 _ rfl
  have y1 := hbox.cellQ 1 _ rfl
  have hrow : ∀ u v, Row (setFrom w.heap.size w4 0 [u, v]) w.heap.size #[u, v] 52 := fun u v => hres.all [u, v] rfl
  have HROW := Lib.hid hrow
  have HR4 := Lib.hid (And.intro (own_keep HR2.out.1 hb24 (Nat.le_refl _)) (own_keep HR2.out.2.1 hb24 (Nat.le_refl _)))
  clear hbox hres hb4 hb24 hb3 hrow
  go_wp2
  generalize hwd : World.setCell (World.setCell w4 _ _) _ _ = wd
  have hsf : setFrom w.heap.size w4 0 [.slice A1 n c1, .slice B1 m k1] = wd := by rw [← hwd]; rfl
  have r0 : wd.cell? ⟨w.heap.size, 0, none⟩ = some (.slice A1 n c1) := by rw [← hsf]; exact (HROW.out _ _).cellQ 0 _ rfl
  have r1 : wd.cell? ⟨w.heap.size, 1, none⟩ = some (.slice B1 m k1) := by rw [← hsf]; exact (HROW.out _ _).cellQ 1 _ rfl
  refine bodyPost_ret (v := .tuple #[.agg #[.slice A1 n c1, .slice B1 m k1], .bool true]) (by simp [results, Tryz.results106, go_sem, r0, r1]) rfl ?_
  rw [HBT.out]
  refine ⟨A1, n, c1, B1, m, k1, rfl, ?_, ?_, ?_⟩
  · rw [← hsf]; exact (Fr.of8 ⟨own_setFrom HR4.out.1 (Nat.lt_succ_self _) _ 0, HL.out.1, HR1.out.2.1, HR1.out.2.2⟩).base (Nat.le_succ _)
  · rw [← hsf]; exact (Fr.of8 ⟨own_setFrom HR4.out.2 (Nat.lt_succ_self _) _ 0, HL.out.2, HR2.out.2.2.1, HR2.out.2.2.2⟩).base (Nat.le_succ _)
  · rw [← hsf]; exact below_setFrom (Nat.le_refl _) _ 0 HB4.out
/-- A function value that searches for a clash. -/
structure Try (w : World) (v : Value) (r : Option (List UInt8 × List UInt8)) : Prop where
  ex : ∃ (f : FuncId) (caps : Array Value) (fn : Func), v = .func (.func f) #[] caps ∧ Tryz.prog.funcs[f]? = some fn ∧ (fn.name == "runtime.NumGoroutine") = false ∧ fn.body.isNone = false ∧ ∀ W, Below w.heap.size w W → Calls Tryz.prog f caps W (ResPost W.heap.size r W)
def firstOf (rs : List (Option (List UInt8 × List UInt8))) : Option (List UInt8 × List UInt8) := rs.foldr Option.or none
theorem firstOf_next {rs : List (Option (List UInt8 × List UInt8))} {k : Nat} {r : Option (List UInt8 × List UInt8)} (h : rs[k]? = some r) : firstOf (rs.drop k) = r.or (firstOf (rs.drop (k + 1))) := by
  obtain ⟨h1, h2⟩ := List.getElem?_eq_some_iff.1 h
  rw [List.drop_eq_getElem_cons h1, h2]; rfl
set_option maxRecDepth 100000 in
set_option maxHeartbeats 8000000 in
theorem first_any (A : Option Addr) (n c : Nat) (vs : List Value) (rs : List (Option (List UInt8 × List UInt8))) (w : World) (hr : Rd w w.heap.size A vs) (hl : vs.length = n) (hl2 : rs.length = n) (hc : n ≤ c) (hm : c ≤ maxLen)
    (hT : ∀ (i : Nat) v r, vs[i]? = some v → rs[i]? = some r → Try w v r) :
    Calls Tryz.prog 105 #[.slice A n c] w (ResPost w.heap.size (firstOf rs) w) := by
  rw [maxLen_eq] at hm
  have HB0 := Lib.hid (show Below w.heap.size w (w.alloc (.cells #[.slice none 0 0, .slice none 0 0] 52)) from (Below.refl _ w).alloc (Nat.le_refl _) _)
  have HROW0 := Lib.hid (row_new w #[.slice none 0 0, .slice none 0 0] 52)
  have hlt0 : w.heap.size < (w.alloc (.cells #[.slice none 0 0, .slice none 0 0] 52)).heap.size := by unfold World.alloc; simp
  have HR := Lib.hid hr
  have HT := Lib.hid hT
  have HLL := Lib.hid (And.intro hl hl2)
  clear hr hT hl hl2
  go_enter Tryz.func105, Tryz.ntmps105
  go_wp2_with fail
  obtain ⟨w1, hw1⟩ : ∃ w1, (w.alloc (.cells #[.slice none 0 0, .slice none 0 0] 52)) = w1 := ⟨_, rfl⟩
  rw [hw1] at HB0 HROW0 hlt0 ⊢
  have HLT0 := Lib.hid hlt0
  clear hw1 hlt0
  go_loopw [10] (fun vi wr => ∃ k : Nat, k ≤ n ∧ vi = .int .i64 k ∧ Hid (firstOf rs = firstOf (rs.drop k)) ∧ Below w1.heap.size w1 wr) (fun vi _ => n - (intOf vi).toNat)
  case atStart => exact ⟨0, by omega, rfl, Lib.hid rfl, Below.refl _ _⟩
  case round =>
    obtain ⟨k, hk, rfl, hf, hbel⟩ := hrel
    have HBR := Lib.hid hbel
    clear hbel
    by_cases hlt : k < n
    · obtain ⟨v, hv⟩ : ∃ v, vs[k]? = some v := ⟨_, List.getElem?_eq_getElem (by rw [HLL.out.1]; exact hlt)⟩
      obtain ⟨r, hr⟩ : ∃ v, rs[k]? = some v := ⟨_, List.getElem?_eq_getElem (by rw [HLL.out.2]; exact hlt)⟩
      obtain ⟨b, off, rfl, hb, hcell⟩ := HR.out (fun e => by have := HLL.out.1; rw [e] at this; simp at this; omega)
      have x0 := ((bt HB0.out HBR.out).cell (p := ⟨b, off + k, none⟩) hb).trans (hcell k v hv)
      obtain ⟨f, caps, fn, rfl, h1, h2, h3, h4⟩ := (HT.out k v r hv hr).ex
      have HFN := Lib.hid (And.intro h1 (And.intro h2 h3))
      have HC := Lib.hid (show Calls Tryz.prog f caps wr (ResPost wr.heap.size r wr) from h4 wr (bt HB0.out HBR.out))
      have HNX := Lib.hid (firstOf_next hr)
      clear hcell hv hr h1 h2 h3 h4
      go_wp2_with (refine wl_callv' rfl rfl rfl HFN.out.1 HFN.out.2.1 HFN.out.2.2 rfl ?_)
      refine HC.out.mono ?_
      rintro e w4 ⟨A1, n1, c1, B1, m1, k1, rfl, hf1, hf2, hb4⟩
      refine ⟨_, rfl, ?_, hb4⟩
      try simp only [Act.put, List.setIfInBounds_toArray, List.set_cons_succ, List.set_cons_zero]
      have HB4 := Lib.hid (bt HBR.out hb4)
      have HF := Lib.hid (And.intro hf1 hf2)
      have HSZ := Lib.hid HBR.out.size
      clear hf1 hf2 hb4 x0
      have hb5 : Below w4.heap.size w4 (w4.alloc (.cells #[.slice A1 n1 c1, .slice B1 m1 k1] 52)) := (Below.refl _ w4).alloc (Nat.le_refl _) _
      have HB5 := Lib.hid (bt HB4.out hb5)
      cases r with
      | some r =>
        have hres := Row.belowS HROW0.out HB5.out (Nat.le_refl _)
        have hbox := row_new w4 #[.slice A1 n1 c1, .slice B1 m1 k1] 52
        have x0 := hres.cellQ 0 _ rfl
        have x1 := hres.cellQ 1 _ rfl
        have f0 := hres.frozen 0
        have f1 := hres.frozen 1
        have y0 := hbox.cellQ 0 _ rfl
        have y1 := hbox.cellQ 1 _ rfl
        have HROW := Lib.hid (show ∀ u v, Row (setFrom w.heap.size (w4.alloc (.cells #[.slice A1 n1 c1, .slice B1 m1 k1] 52)) 0 [u, v]) w.heap.size #[u, v] 52 from fun u v => hres.all [u, v] rfl)
        have HFO := Lib.hid (show firstOf rs = some r by rw [hf.out, HNX.out]; rfl)
        have HF5 := Lib.hid (And.intro (HF.out.1.keep hb5) (HF.out.2.keep hb5))
        clear hres hbox hb5 hf
        go_wp2
        generalize hwd : World.setCell (World.setCell (w4.alloc _) _ _) _ _ = wd
        have hsf : setFrom w.heap.size (w4.alloc (.cells #[.slice A1 n1 c1, .slice B1 m1 k1] 52)) 0 [.slice A1 n1 c1, .slice B1 m1 k1] = wd := by rw [← hwd]; rfl
        have r0 : wd.cell? ⟨w.heap.size, 0, none⟩ = some (.slice A1 n1 c1) := by rw [← hsf]; exact (HROW.out _ _).cellQ 0 _ rfl
        have r1 : wd.cell? ⟨w.heap.size, 1, none⟩ = some (.slice B1 m1 k1) := by rw [← hsf]; exact (HROW.out _ _).cellQ 1 _ rfl
        refine bodyPost_ret (v := .tuple #[.agg #[.slice A1 n1 c1, .slice B1 m1 k1], .bool true]) (by simp [results, Tryz.results105, go_sem, r0, r1]) rfl ?_
        rw [HFO.out]
        have hlt : w.heap.size < wr.heap.size := Nat.lt_of_lt_of_le HLT0.out HSZ.out
        exact ⟨A1, n1, c1, B1, m1, k1, rfl, by rw [← hsf]; exact (HF5.out.1.set hlt _ 0).base (Nat.le_of_lt hlt), by rw [← hsf]; exact (HF5.out.2.set hlt _ 0).base (Nat.le_of_lt hlt), by rw [← hsf]; exact below_setFrom (Nat.le_refl _) _ 0 (bt HB0.out HB5.out)⟩
      | none =>
        have HFO := Lib.hid (show firstOf rs = firstOf (rs.drop (k + 1)) by rw [hf.out, HNX.out]; rfl)
        clear hb5 hf
        go_wp2
        go_roundw
        case rel => exact ⟨k + 1, by omega, by go_num, HFO, HB5.out⟩
        case measure => simp [intOf]; omega
    · obtain rfl : k = n := by omega
      have HFO := Lib.hid (show firstOf rs = none by rw [hf.out, List.drop_eq_nil_of_le (by rw [HLL.out.2]; exact Nat.le_refl _)]; rfl)
      have hres := Row.belowS HROW0.out HBR.out (Nat.le_refl _)
      have x0 := hres.cellQ 0 _ rfl
      have x1 := hres.cellQ 1 _ rfl
      have f0 := hres.frozen 0
      have f1 := hres.frozen 1
      have HROW := Lib.hid (show ∀ u v, Row (setFrom w.heap.size wr 0 [u, v]) w.heap.size #[u, v] 52 from fun u v => hres.all [u, v] rfl)
      clear hres hf
      go_wp2
      generalize hwd : World.setCell (World.setCell wr _ _) _ _ = wd
      have hsf : setFrom w.heap.size wr 0 [.slice none 0 0, .slice none 0 0] = wd := by rw [← hwd]; rfl
      have r0 : wd.cell? ⟨w.heap.size, 0, none⟩ = some (.slice none 0 0) := by rw [← hsf]; exact (HROW.out _ _).cellQ 0 _ rfl
      have r1 : wd.cell? ⟨w.heap.size, 1, none⟩ = some (.slice none 0 0) := by rw [← hsf]; exact (HROW.out _ _).cellQ 1 _ rfl
      refine bodyPost_ret (v := .tuple #[.agg #[.slice none 0 0, .slice none 0 0], .bool false]) (by simp [results, Tryz.results105, go_sem, r0, r1]) rfl ?_
      rw [HFO.out]
      exact ⟨none, 0, 0, none, 0, 0, rfl, Fr.nil _ _, Fr.nil _ _, by rw [← hsf]; exact below_setFrom (Nat.le_refl _) _ 0 (bt HB0.out HBR.out)⟩
end Go.Proofs.YteoledjllpgcbaaGreatDoor

namespace Go.Proofs.YteoledjllpgcbaaGreatDoor
set_option maxRecDepth 100000
set_option linter.unusedVariables false
open Go.RowKit

/-- A slice of bytes, as a value. -/
def pv (q : Piece) : Value := .slice q.a q.n q.c
section
variable {ops : Array Oper} {rest : List Oper} {o : Oper} {a : Act} {Q : Exit → Act → World → Prop} {w : World}
end
section
variable {w wr w' : World} {Ah Ar A' : Option Addr} {nh ch nr cr c' : Nat} {ps : List Piece} {R : List Bool}
end
section
variable {w w' : World} {x n c : Nat} {A : Option Addr} {l : List UInt8}
end
/-- The leaves' bytes. -/
def raws (f : Nat → Piece) (n : Nat) : List (List UInt8) := (List.range n).map fun i => (f i).l
end Go.Proofs.YteoledjllpgcbaaGreatDoor
