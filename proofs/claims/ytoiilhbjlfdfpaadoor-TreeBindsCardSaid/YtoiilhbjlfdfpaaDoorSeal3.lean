/- NodeBytes and Node, bytes.Equal, of the package seal. No statement of the seat is proved here. -/
import Derived.Test.YtoiilhbjlfdfpaaDoorSeal2
import Derived.Laws.IdiomStrings
namespace Go.Proofs.YtoiilhbjlfdfpaaDoor
set_option linter.unusedVariables false
open Go.RowKit

section
variable {P : Program} {ops : Array Oper} {rest : List Oper} {o : Oper} {a : Act} {Q : Exit → Act → World → Prop} {w : World}
/-- []byte(s): a new row that reads as the string's bytes. -/
theorem wl_bytes (hgd : o.guard = none) (src dst : TypeId) (x : Operand) (ho : o.op = .convert src dst x) (e : TypeId) (hs : P.underlying src = some .string) (hd : P.underlying dst = some (.slice e)) (he : P.underlying e = some (.int .u8))
    (l : List UInt8) (hx : a.eval x = .string (str l)) (hl : l.length ≤ maxLen)
    (h : ∀ A c w', Rd w' w'.heap.size A (l.map bv) → l.length ≤ c → c ≤ maxLen → Below w.heap.size w w' → wpList P ops Q rest (a.put o.dst (.slice A l.length c)) w') : wpList P ops Q (o :: rest) a w := by
  refine wpList_plain hgd fun K hK => ?_
  have hrun := run_bytes_of_string (P := P) w src dst e (str l) hs hd he
  unfold Oper.wp execOp
  simp only [ho, Sem.run_bind, Sem.run_pure, hx, hrun, Result.andThen_ok]
  refine hK _ _ ?_
  have hge := grownCap_ge w (str l).size 0 e
  have hle := grownCap_le_maxLen w (str l).size 0 e (by rw [str_size]; exact hl)
  generalize grownCap w (str l).size 0 e = cap at hge hle ⊢
  rw [str_size] at hge ⊢
  refine h _ _ _ (fun _ => ⟨w.heap.size, 0, rfl, by unfold World.alloc World.drew; simp, fun j v hv => ?_⟩) hge hle ((Below.refl _ w).drew.alloc (Nat.le_refl _) _)
  rw [List.getElem?_map] at hv
  have hj : j < l.length := by
    rcases Nat.lt_or_ge j l.length with h1 | h1
    · exact h1
    · rw [List.getElem?_eq_none h1] at hv; cases hv
  have hb := bytesRow_at (str l) cap j (by simpa [str] using hj)
  rw [Nat.zero_add]
  show (w.drew.alloc _).cell? ⟨w.drew.heap.size, j, none⟩ = _
  rw [cell_of_row _ _ _ _ _ _ (heap_alloc_new w.drew _), hb]
  rw [List.getElem?_eq_getElem hj] at hv
  injection hv with hv
  rw [← hv]
  rfl
end
theorem rows_two (w : World) (A : Option Addr) (n c : Nat) (l : List UInt8) (B : Option Addr) (m k : Nat) (r : List UInt8) (t : TypeId) (hA : Rd w w.heap.size A (l.map bv)) (hl : l.length = n) (hc : n ≤ c) (hm : c ≤ maxLen) (hB : Rd w w.heap.size B (r.map bv)) (hr : r.length = m) (hk : m ≤ k) (hk2 : k ≤ maxLen) :
    RowsAt (w.alloc (.cells #[.slice A n c, .slice B m k] t)) (some ⟨w.heap.size, 0, none⟩) 2 (fun i => if i = 0 then ⟨A, n, c, l⟩ else ⟨B, m, k, r⟩) := fun _ => by
  refine ⟨w.heap.size, 0, rfl, by unfold World.alloc; simp, fun i hi => ?_⟩
  rcases (show i = 0 ∨ i = 1 by omega) with rfl | rfl
  · exact ⟨(row_new w _ _).cellQ 0 _ rfl, ⟨(hA.alloc (Nat.le_refl _) _).more (by unfold World.alloc; simp), hl, hc, hm⟩⟩
  · exact ⟨(row_new w _ _).cellQ 1 _ rfl, ⟨(hB.alloc (Nat.le_refl _) _).more (by unfold World.alloc; simp), hr, hk, hk2⟩⟩
theorem flat_two (x y : Piece) : flatP (fun i => if i = 0 then x else y) 2 = x.l ++ y.l := by simp [flatP, List.range_succ]
set_option maxHeartbeats 4000000 in
theorem nodeBytes_any (l r : List UInt8) (w : World) (hl : l.length ≤ 100000) (hr : r.length ≤ 100000) :
    Calls Tryd.prog 50 #[sv l, sv r] w (JoinPost 1 (l ++ r) w) := by
  have z1 := str_size l
  have z2 := str_size r
  go_enter Tryd.func50, Tryd.ntmps50
  go_wp2_with (first
    | (refine wl_bytes rfl 9 50 (.tmp 5) rfl 5 Tryd.underlying9 Tryd.underlying50 Tryd.underlying5 l rfl (by rw [maxLen_eq]; omega) ?_; intro A1 c1 w1 hr1 hc1 hc1' hb1; have H1 := Lib.hid (And.intro hr1 (And.intro hc1 (And.intro hc1' hb1))); clear hr1 hc1 hc1' hb1)
    | (refine wl_bytes rfl 9 50 (.tmp 7) rfl 5 Tryd.underlying9 Tryd.underlying50 Tryd.underlying5 r rfl (by rw [maxLen_eq]; omega) ?_; intro A2 c2 w2 hr2 hc2 hc2' hb2; have H2 := Lib.hid (And.intro hr2 (And.intro hc2 (And.intro hc2' hb2))); clear hr2 hc2 hc2' hb2))
  have HR := Lib.hid (rows_two w2 A1 l.length c1 l A2 r.length c2 r 50 ((H1.out.1.below' H2.out.2.2.2 (Nat.le_refl _)).more H2.out.2.2.2.size) rfl H1.out.2.1 H1.out.2.2.1 H2.out.1 rfl H2.out.2.1 H2.out.2.2.1)
  refine Calls.mono (show Calls Tryd.prog 64 #[.int .u8 ((1 : UInt8).toNat : Int), .slice (some ⟨w2.heap.size, 0, none⟩) 2 2] (w2.alloc (.cells #[.slice A1 l.length c1, .slice A2 r.length c2] 50)) (JoinPost 1 (flatP (fun i => if i = 0 then (⟨A1, l.length, c1, l⟩ : Piece) else ⟨A2, r.length, c2, r⟩) 2) (w2.alloc (.cells #[.slice A1 l.length c1, .slice A2 r.length c2] 50))) from join_any 1 _ 2 2 _ _ HR.out (Nat.le_refl _) (by decide) (by omega) (fun i hi => by rcases (show i = 0 ∨ i = 1 by omega) with rfl | rfl <;> simp <;> omega)) ?_
  rintro e w3 ⟨A3, c3, rfl, ho, h1, h2, hb⟩
  rw [flat_two] at ho h1 ⊢
  have HO := Lib.hid (And.intro ho (And.intro h1 (And.intro h2 hb)))
  have HW2 := Lib.hid (bt H1.out.2.2.2 H2.out.2.2.2)
  clear ho h1 h2 hb
  go_wp2
  go_ret
  exact ⟨A3, c3, by rw [List.length_append]; rfl, own_base HO.out.1 (Nat.le_trans HW2.out.size (by unfold World.alloc; simp)), HO.out.2.1, HO.out.2.2.1, bt (HW2.out.alloc HW2.out.size _) HO.out.2.2.2⟩
def NodePost (l r : List UInt8) (w : World) (e : Ending) (w' : World) : Prop := e = .returned (.tuple #[sv (seal_ 1 (l ++ r)), .int .i64 0]) ∧ Below w.heap.size w w'
set_option maxHeartbeats 4000000 in
theorem node_any (l r : List UInt8) (w : World) (hl : l.length = 32) (hr : r.length = 32) (ht : Tabs w) :
    Calls Tryd.prog 30 #[sv l, sv r] w (NodePost l r w) := by
  have z1 : (str l).size = 32 := by rw [str_size]; exact hl
  have z2 : (str r).size = 32 := by rw [str_size]; exact hr
  have HT := Lib.hid (And.intro ht (And.intro hl hr))
  clear ht hl hr
  go_enter Tryd.func30, Tryd.ntmps30
  go_wp2_with fail
  refine (nodeBytes_any l r w (by rw [HT.out.2.1]; omega) (by rw [HT.out.2.2]; omega)).mono ?_
  rintro e w1 ⟨A1, c1, rfl, ho, h1, h2, hb⟩
  have HO := Lib.hid (And.intro ho (And.intro h1 (And.intro h2 hb)))
  clear ho h1 h2 hb
  go_wp2_with fail
  refine Calls.mono (show Calls Tryd.prog 31 #[.slice A1 (l.length + r.length + 1) c1] w1 (SealPost 1 (l ++ r) w1) from by
    have h := join_sum 1 (l ++ r) A1 c1 w1 _ HO.out.1 HO.out.2.1 HO.out.2.2.1 (by rw [List.length_append, HT.out.2.1, HT.out.2.2]; omega) (HT.out.1.below HO.out.2.2.2)
    rw [List.length_append] at h
    exact h) ?_
  rintro e w2 ⟨rfl, hb2⟩
  have HB2 := Lib.hid (bt HO.out.2.2.2 hb2)
  clear hb2
  go_wp2
  go_ret2
  exact ⟨rfl, HB2.out⟩
set_option maxHeartbeats 4000000 in
theorem equal_any (A : Option Addr) (n c : Nat) (l : List UInt8) (B : Option Addr) (m k : Nat) (r : List UInt8) (w : World) (hA : Rd w w.heap.size A (l.map bv)) (hl : l.length = n) (hB : Rd w w.heap.size B (r.map bv)) (hr : r.length = m) :
    Calls Tryd.prog 54 #[.slice A n c, .slice B m k] w fun e w' => e = .returned (.bool (decide (l = r))) ∧ w = w' := by
  have q1 := run_str (P := Tryd.prog) (w := w) 50 9 5 Tryd.underlying50 Tryd.underlying5 Tryd.underlying9 A n c w.heap.size l hA hl
  have q2 := run_str (P := Tryd.prog) (w := w) 50 9 5 Tryd.underlying50 Tryd.underlying5 Tryd.underlying9 B m k w.heap.size r hB hr
  have q3 : ((str l).toList == (str r).toList) = decide (l = r) := by
    rw [str_toList, str_toList]
    by_cases h : l = r <;> simp [h]
  clear hA hB hl hr
  go_enter Tryd.func54, Tryd.ntmps54
  go_wp2
  go_ret
  exact ⟨rfl, rfl⟩
end Go.Proofs.YtoiilhbjlfdfpaaDoor
