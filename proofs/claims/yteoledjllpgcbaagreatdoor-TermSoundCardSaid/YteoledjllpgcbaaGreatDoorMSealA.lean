/- MSealA: several texts of this claim in one file. No statement of the seat is proved here. -/
import Derived.Test.YteoledjllpgcbaaGreatDoorMShaC
import Derived.Test.YteoledjllpgcbaaGreatDoorMBase
import Derived.Laws.IdiomStrings
import Derived.Deep.RegionWith
namespace Go.Proofs.YteoledjllpgcbaaGreatDoor
set_option maxRecDepth 100000
set_option maxHeartbeats 64000000
set_option linter.unusedVariables false
open Go.RowKit
def flatP (f : Nat → Piece) (n : Nat) : List UInt8 := (List.range n).flatMap fun i => (f i).l
theorem flatP_succ (f : Nat → Piece) (n : Nat) : flatP f (n + 1) = flatP f n ++ (f n).l := by
 unfold flatP
 rw [List.range_succ, List.flatMap_append, List.flatMap_singleton]
def JoinPost (kd : UInt8) (l : List UInt8) (w : World) (e : Ending) (w' : World) : Prop :=
 ∃ A c, e = .returned (.slice A (l.length + 1) c) ∧ w'.ownsRow w.heap.size 5 1 (.slice A (l.length + 1) c) (l.length + 1) ((kd :: l).map bv) ∧ l.length + 1 ≤ c ∧ c ≤ maxLen ∧ Below w.heap.size w w'
theorem join_any (kd : UInt8) (A : Option Addr) (n c : Nat) (f : Nat → Piece) (w : World) (hr : RowsAt w A n f) (hc : n ≤ c) (hm : c ≤ maxLen) (hn : n ≤ 4) (hl : ∀ i, i < n → (f i).n ≤ 1000000) :
  Calls Tryz.prog 126 #[.int .u8 (kd.toNat : Int), .slice A n c] w (JoinPost kd (flatP f n) w) := by
 rw [maxLen_eq] at hm
 have HR := Lib.hid hr
 have HL := Lib.hid hl
 have hk0 := kd.toNat_lt
 clear hr hl
 go_enter Tryz.func126, Tryz.ntmps126
 go_wp2
 go_loopw [5, 12] (fun v i wr => ∃ (k u : Nat) (A6 : Option Addr) (c6 : Nat), k ≤ n ∧ i = .int .i64 k ∧ u = (flatP f k).length + 1 ∧ u ≤ 1000000 * k + 1 ∧ v = .slice A6 u c6 ∧ u ≤ c6 ∧ c6 ≤ 9223372036854775807 ∧ wr.ownsRow w.heap.size 5 1 (.slice A6 u c6) u ((kd :: flatP f k).map bv) ∧ Below w.heap.size w wr) (fun _ i _ => n - (intOf i).toNat)
 case atStart => exact ⟨0, 1, _, 1, by omega, rfl, rfl, by omega, rfl, Nat.le_refl _, by omega, own_new w [bv kd] 5 1 1 rfl (by decide) (Nat.le_refl _), (Below.refl _ w).alloc (Nat.le_refl _) _⟩
 case round =>
  obtain ⟨k, u, A6, c6, hk, rfl, hu, hub, rfl, hc6, hc6', hown, hbel⟩ := hrel
  have HO := Lib.hid hown
  have HB := Lib.hid hbel
  have HU := Lib.hid hu
  clear hown hbel hu
  by_cases hlt : k < n
  ·
   obtain ⟨b, off, rfl, hb, hrows⟩ := HR.out (by omega)
   obtain ⟨hcell, hpc⟩ := hrows k hlt
   have hxn := HL.out k hlt
   obtain ⟨x, hx⟩ : ∃ x, f k = x := ⟨_, rfl⟩
   rw [hx] at hcell hpc hxn
   have HX := Lib.hid hx
   have HP := Lib.hid hpc
   have x0 := (HB.out.cell (p := ⟨b, off + k, none⟩) hb).trans hcell
   clear hrows hcell hpc hx
   go_wp2_with (first
    | (at_builtin; refine wl_app rfl (.tmp 16) (.tmp 17) 28 rfl w.heap.size 5 1 1 bytesT _ u _ rfl HO.out w.heap.size x.a x.n x.c (x.l.map bv) rfl (HP.out.rd.below' HB.out (Nat.le_refl _)) (by simpa using HP.out.len) (one_bv _) (by rw [maxLen_eq]; omega) (by omega) HB.out.size ?_; intro A3 c3 w3 hown3 hg3 hat3 hb3 hd3 hd3'; rw [← List.map_append] at hown3; have HO3 := Lib.hid hown3; have HB3 := Lib.hid (HB.out.trans hb3); have HC3 := Lib.hid (And.intro hd3 hd3'); clear hown3 hg3 hat3 hb3 hd3 hd3'))
   go_roundw
   case rel => exact ⟨k + 1, u + x.n, A3, c3, by omega, by go_num, by rw [flatP_succ, HX.out, List.length_append, HP.out.len, HU.out]; omega, by omega, rfl, HC3.out.1, by have := HC3.out.2; rw [maxLen_eq] at this; exact this, by rw [flatP_succ, HX.out]; exact HO3.out, HB3.out⟩
   case measure => simp [intOf]; omega
  ·
   obtain rfl : k = n := by omega
   go_wp2
   go_ret
   refine ⟨A6, c6, by rw [← HU.out]; rfl, by rw [← HU.out]; exact HO.out, by rw [← HU.out]; exact hc6, by rw [maxLen_eq]; exact hc6', HB.out⟩
theorem rows_one (w : World) (A : Option Addr) (n c : Nat) (l : List UInt8) (t : TypeId) (hr : Rd w w.heap.size A (l.map bv)) (hl : l.length = n) (hc : n ≤ c) (hm : c ≤ maxLen) :
  RowsAt (w.alloc (.cells #[.slice A n c] t)) (some ⟨w.heap.size, 0, none⟩) 1 (fun _ => ⟨A, n, c, l⟩) := fun _ => by
 refine ⟨w.heap.size, 0, rfl, by unfold World.alloc; simp, fun i hi => ?_⟩
 obtain rfl : i = 0 := by omega
 exact ⟨(row_new w _ _).cellQ 0 _ rfl, ⟨(hr.alloc (Nat.le_refl _) _).more (by unfold World.alloc; simp), hl, hc, hm⟩⟩
theorem flat_one (x : Piece) : flatP (fun _ => x) 1 = x.l := by simp [flatP]
def seal_ (kd : UInt8) (l : List UInt8) : List UInt8 := Sha.sum (kd :: l)
def SealPost (kd : UInt8) (l : List UInt8) (w : World) (e : Ending) (w' : World) : Prop := e = .returned (sv (seal_ kd l)) ∧ Below w.heap.size w w'
theorem join_sum (kd : UInt8) (l : List UInt8) (A : Option Addr) (c : Nat) (w : World) (B : Nat) (ho : w.ownsRow B 5 1 (.slice A (l.length + 1) c) (l.length + 1) ((kd :: l).map bv)) (hc : l.length + 1 ≤ c) (hm : c ≤ maxLen) (hl : l.length ≤ 1000000) (ht : Tabs w) :
  Calls Tryz.prog 63 #[.slice A (l.length + 1) c] w (SealPost kd l w) :=
 sum_any A (l.length + 1) c (kd :: l) w (Rd.of_own ho) rfl hc hm (by omega) ht.r ht.b
theorem leafBytes_any (A : Option Addr) (n c : Nat) (l : List UInt8) (w : World) (hr : Rd w w.heap.size A (l.map bv)) (hl : l.length = n) (hc : n ≤ c) (hm : c ≤ maxLen) (hs : n ≤ 1000000) :
  Calls Tryz.prog 92 #[.slice A n c] w (JoinPost 0 l w) := by
 have HR := Lib.hid (rows_one w A n c l 28 hr hl hc hm)
 rw [maxLen_eq] at hm
 clear hr hl
 go_enter Tryz.func92, Tryz.ntmps92
 go_wp2_with fail
 refine Calls.mono (show Calls Tryz.prog 126 #[.int .u8 ((0 : UInt8).toNat : Int), .slice (some ⟨w.heap.size, 0, none⟩) 1 1] (w.alloc (.cells #[.slice A n c] 28)) (JoinPost 0 (flatP (fun _ => ⟨A, n, c, l⟩) 1) (w.alloc (.cells #[.slice A n c] 28))) from join_any 0 _ 1 1 _ _ HR.out (Nat.le_refl _) (by decide) (by omega) (fun i hi => hs)) ?_
 rintro e w1 ⟨A1, c1, rfl, ho, h1, h2, hb⟩
 rw [flat_one] at ho h1 ⊢
 have HO := Lib.hid (And.intro ho (And.intro h1 (And.intro h2 hb)))
 clear ho h1 h2 hb
 go_wp2
 go_ret
 exact ⟨A1, c1, rfl, own_base HO.out.1 (by unfold World.alloc; simp), HO.out.2.1, HO.out.2.2.1, bt ((Below.refl _ w).alloc (Nat.le_refl _) _) HO.out.2.2.2⟩
theorem leaf_any (A : Option Addr) (n c : Nat) (l : List UInt8) (w : World) (hr : Rd w w.heap.size A (l.map bv)) (hl : l.length = n) (hc : n ≤ c) (hm : c ≤ maxLen) (hs : n ≤ 1000000) (ht : Tabs w) :
  Calls Tryz.prog 47 #[.slice A n c] w (SealPost 0 l w) := by
 have HR := Lib.hid (And.intro hr (And.intro hl hm))
 have HT := Lib.hid ht
 clear hr hl hm ht
 go_enter Tryz.func47, Tryz.ntmps47
 go_wp2_with fail
 refine (leafBytes_any A n c l w HR.out.1 HR.out.2.1 hc HR.out.2.2 hs).mono ?_
 rintro e w1 ⟨A1, c1, rfl, ho, h1, h2, hb⟩
 have HO := Lib.hid (And.intro ho (And.intro h1 (And.intro h2 hb)))
 clear ho h1 h2 hb
 go_wp2_with fail
 refine (join_sum 0 l A1 c1 w1 _ HO.out.1 HO.out.2.1 HO.out.2.2.1 (by rw [HR.out.2.1]; exact hs) (HT.out.below HO.out.2.2.2)).mono ?_
 rintro e w2 ⟨rfl, hb2⟩
 have HB2 := Lib.hid (bt HO.out.2.2.2 hb2)
 clear hb2
 go_wp2
 go_ret
 exact ⟨rfl, HB2.out⟩
theorem postsBytes_any (A : Option Addr) (n c : Nat) (l : List UInt8) (w : World) (hr : Rd w w.heap.size A (l.map bv)) (hl : l.length = n) (hc : n ≤ c) (hm : c ≤ maxLen) (hs : n ≤ 1000000) :
  Calls Tryz.prog 107 #[.slice A n c] w (JoinPost 2 l w) := by
 have HR := Lib.hid (rows_one w A n c l 28 hr hl hc hm)
 rw [maxLen_eq] at hm
 clear hr hl
 go_enter Tryz.func107, Tryz.ntmps107
 go_wp2_with fail
 refine Calls.mono (show Calls Tryz.prog 126 #[.int .u8 ((2 : UInt8).toNat : Int), .slice (some ⟨w.heap.size, 0, none⟩) 1 1] (w.alloc (.cells #[.slice A n c] 28)) (JoinPost 2 (flatP (fun _ => ⟨A, n, c, l⟩) 1) (w.alloc (.cells #[.slice A n c] 28))) from join_any 2 _ 1 1 _ _ HR.out (Nat.le_refl _) (by decide) (by omega) (fun i hi => hs)) ?_
 rintro e w1 ⟨A1, c1, rfl, ho, h1, h2, hb⟩
 rw [flat_one] at ho h1 ⊢
 have HO := Lib.hid (And.intro ho (And.intro h1 (And.intro h2 hb)))
 clear ho h1 h2 hb
 go_wp2
 go_ret
 exact ⟨A1, c1, rfl, own_base HO.out.1 (by unfold World.alloc; simp), HO.out.2.1, HO.out.2.2.1, bt ((Below.refl _ w).alloc (Nat.le_refl _) _) HO.out.2.2.2⟩
theorem posts_any (A : Option Addr) (n c : Nat) (l : List UInt8) (w : World) (hr : Rd w w.heap.size A (l.map bv)) (hl : l.length = n) (hc : n ≤ c) (hm : c ≤ maxLen) (hs : n ≤ 1000000) (ht : Tabs w) :
  Calls Tryz.prog 95 #[.slice A n c] w (SealPost 2 l w) := by
 have HR := Lib.hid (And.intro hr (And.intro hl hm))
 have HT := Lib.hid ht
 clear hr hl hm ht
 go_enter Tryz.func95, Tryz.ntmps95
 go_wp2_with fail
 refine (postsBytes_any A n c l w HR.out.1 HR.out.2.1 hc HR.out.2.2 hs).mono ?_
 rintro e w1 ⟨A1, c1, rfl, ho, h1, h2, hb⟩
 have HO := Lib.hid (And.intro ho (And.intro h1 (And.intro h2 hb)))
 clear ho h1 h2 hb
 go_wp2_with fail
 refine (join_sum 2 l A1 c1 w1 _ HO.out.1 HO.out.2.1 HO.out.2.2.1 (by rw [HR.out.2.1]; exact hs) (HT.out.below HO.out.2.2.2)).mono ?_
 rintro e w2 ⟨rfl, hb2⟩
 have HB2 := Lib.hid (bt HO.out.2.2.2 hb2)
 clear hb2
 go_wp2
 go_ret
 exact ⟨rfl, HB2.out⟩
section
variable {P : Program} {ops : Array Oper} {rest : List Oper} {o : Oper} {a : Act} {Q : Exit → Act → World → Prop} {w : World}
theorem wl_bytes (hgd : o.guard = none) (src dst : TypeId) (x : Operand) (ho : o.op = .convert src dst x) (e : TypeId) (hs : P.underlying src = some .string) (hd : P.underlying dst = some (.slice e)) (he : P.underlying e = some (.int .u8))
  (l : List UInt8) (hx : a.eval x = .string (str l)) (hl : l.length ≤ maxLen)
  (h : ∀ A c w', Rd w' w'.heap.size A (l.map bv) → l.length ≤ c → c ≤ maxLen → Below w.heap.size w w' → wpList P ops Q rest (a.put o.dst (.slice A l.length c)) w') : wpList P ops Q (o :: rest) a w := by
 refine wpList_plain hgd fun K hK => ?_
 have hrun := run_bytes_of_string (P := P) w src dst e (str l) hs hd he
 unfold Oper.wp execOp
 simp only [ho, Sem.run_bind, Sem.run_pure, hx, hrun, Result.andThen_ok]
 refine hK _ _ ?_
 have hge := grownCap_ge w (str l).size 0 e
 have hle := grownCap_le_maxLen w (str l).size 0 e (by rw [str_size]; exact hl)
 generalize grownCap w (str l).size 0 e = cap at hge hle ⊢
 rw [str_size] at hge ⊢
 refine h _ _ _ (fun _ => ⟨w.heap.size, 0, rfl, by unfold World.alloc World.drew; simp, fun j v hv => ?_⟩) hge hle ((Below.refl _ w).drew.alloc (Nat.le_refl _) _)
 rw [List.getElem?_map] at hv
 have hj : j < l.length := by
  rcases Nat.lt_or_ge j l.length with h1 | h1
  · exact h1
  · rw [List.getElem?_eq_none h1] at hv; cases hv
 have hb := bytesRow_at (str l) cap j (by simpa [str] using hj)
 rw [Nat.zero_add]
 show (w.drew.alloc _).cell? ⟨w.drew.heap.size, j, none⟩ = _
 rw [cell_of_row _ _ _ _ _ _ (heap_alloc_new w.drew _), hb]
 rw [List.getElem?_eq_getElem hj] at hv
 injection hv with hv
 rw [← hv]
 rfl
end
theorem rows_two (w : World) (A : Option Addr) (n c : Nat) (l : List UInt8) (B : Option Addr) (m k : Nat) (r : List UInt8) (t : TypeId) (hA : Rd w w.heap.size A (l.map bv)) (hl : l.length = n) (hc : n ≤ c) (hm : c ≤ maxLen) (hB : Rd w w.heap.size B (r.map bv)) (hr : r.length = m) (hk : m ≤ k) (hk2 : k ≤ maxLen) :
  RowsAt (w.alloc (.cells #[.slice A n c, .slice B m k] t)) (some ⟨w.heap.size, 0, none⟩) 2 (fun i => if i = 0 then ⟨A, n, c, l⟩ else ⟨B, m, k, r⟩) := fun _ => by
 refine ⟨w.heap.size, 0, rfl, by unfold World.alloc; simp, fun i hi => ?_⟩
 rcases (show i = 0 ∨ i = 1 by omega) with rfl | rfl
 · exact ⟨(row_new w _ _).cellQ 0 _ rfl, ⟨(hA.alloc (Nat.le_refl _) _).more (by unfold World.alloc; simp), hl, hc, hm⟩⟩
 · exact ⟨(row_new w _ _).cellQ 1 _ rfl, ⟨(hB.alloc (Nat.le_refl _) _).more (by unfold World.alloc; simp), hr, hk, hk2⟩⟩
theorem flat_two (x y : Piece) : flatP (fun i => if i = 0 then x else y) 2 = x.l ++ y.l := by simp [flatP, List.range_succ]
theorem nodeBytes_any (l r : List UInt8) (w : World) (hl : l.length ≤ 100000) (hr : r.length ≤ 100000) :
  Calls Tryz.prog 103 #[sv l, sv r] w (JoinPost 1 (l ++ r) w) := by
 have z1 := str_size l
 have z2 := str_size r
 go_enter Tryz.func103, Tryz.ntmps103
 go_wp2_with (first
  | (refine wl_bytes rfl 9 28 (.tmp 5) rfl 5 Tryz.underlying9 Tryz.underlying28 Tryz.underlying5 l rfl (by rw [maxLen_eq]; omega) ?_; intro A1 c1 w1 hr1 hc1 hc1' hb1; have H1 := Lib.hid (And.intro hr1 (And.intro hc1 (And.intro hc1' hb1))); clear hr1 hc1 hc1' hb1)
  | (refine wl_bytes rfl 9 28 (.tmp 7) rfl 5 Tryz.underlying9 Tryz.underlying28 Tryz.underlying5 r rfl (by rw [maxLen_eq]; omega) ?_; intro A2 c2 w2 hr2 hc2 hc2' hb2; have H2 := Lib.hid (And.intro hr2 (And.intro hc2 (And.intro hc2' hb2))); clear hr2 hc2 hc2' hb2))
 have HR := Lib.hid (rows_two w2 A1 l.length c1 l A2 r.length c2 r 28 ((H1.out.1.below' H2.out.2.2.2 (Nat.le_refl _)).more H2.out.2.2.2.size) rfl H1.out.2.1 H1.out.2.2.1 H2.out.1 rfl H2.out.2.1 H2.out.2.2.1)
 refine Calls.mono (show Calls Tryz.prog 126 #[.int .u8 ((1 : UInt8).toNat : Int), .slice (some ⟨w2.heap.size, 0, none⟩) 2 2] (w2.alloc (.cells #[.slice A1 l.length c1, .slice A2 r.length c2] 28)) (JoinPost 1 (flatP (fun i => if i = 0 then (⟨A1, l.length, c1, l⟩ : Piece) else ⟨A2, r.length, c2, r⟩) 2) (w2.alloc (.cells #[.slice A1 l.length c1, .slice A2 r.length c2] 28))) from join_any 1 _ 2 2 _ _ HR.out (Nat.le_refl _) (by decide) (by omega) (fun i hi => by rcases (show i = 0 ∨ i = 1 by omega) with rfl | rfl <;> simp <;> omega)) ?_
 rintro e w3 ⟨A3, c3, rfl, ho, h1, h2, hb⟩
 rw [flat_two] at ho h1 ⊢
 have HO := Lib.hid (And.intro ho (And.intro h1 (And.intro h2 hb)))
 have HW2 := Lib.hid (bt H1.out.2.2.2 H2.out.2.2.2)
 clear ho h1 h2 hb
 go_wp2
 go_ret
 exact ⟨A3, c3, by rw [List.length_append]; rfl, own_base HO.out.1 (Nat.le_trans HW2.out.size (by unfold World.alloc; simp)), HO.out.2.1, HO.out.2.2.1, bt (HW2.out.alloc HW2.out.size _) HO.out.2.2.2⟩
def NodePost (l r : List UInt8) (w : World) (e : Ending) (w' : World) : Prop := e = .returned (.tuple #[sv (seal_ 1 (l ++ r)), .int .i64 0]) ∧ Below w.heap.size w w'
theorem node_any (l r : List UInt8) (w : World) (hl : l.length = 32) (hr : r.length = 32) (ht : Tabs w) :
  Calls Tryz.prog 125 #[sv l, sv r] w (NodePost l r w) := by
 have z1 : (str l).size = 32 := by rw [str_size]; exact hl
 have z2 : (str r).size = 32 := by rw [str_size]; exact hr
 have HT := Lib.hid (And.intro ht (And.intro hl hr))
 clear ht hl hr
 go_enter Tryz.func125, Tryz.ntmps125
 go_wp2_with fail
 refine (nodeBytes_any l r w (by rw [HT.out.2.1]; omega) (by rw [HT.out.2.2]; omega)).mono ?_
 rintro e w1 ⟨A1, c1, rfl, ho, h1, h2, hb⟩
 have HO := Lib.hid (And.intro ho (And.intro h1 (And.intro h2 hb)))
 clear ho h1 h2 hb
 go_wp2_with fail
 refine Calls.mono (show Calls Tryz.prog 63 #[.slice A1 (l.length + r.length + 1) c1] w1 (SealPost 1 (l ++ r) w1) from by
  have h := join_sum 1 (l ++ r) A1 c1 w1 _ HO.out.1 HO.out.2.1 HO.out.2.2.1 (by rw [List.length_append, HT.out.2.1, HT.out.2.2]; omega) (HT.out.1.below HO.out.2.2.2)
  rw [List.length_append] at h
  exact h) ?_
 rintro e w2 ⟨rfl, hb2⟩
 have HB2 := Lib.hid (bt HO.out.2.2.2 hb2)
 clear hb2
 go_wp2
 go_ret2
 exact ⟨rfl, HB2.out⟩
theorem equal_any (A : Option Addr) (n c : Nat) (l : List UInt8) (B : Option Addr) (m k : Nat) (r : List UInt8) (w : World) (hA : Rd w w.heap.size A (l.map bv)) (hl : l.length = n) (hB : Rd w w.heap.size B (r.map bv)) (hr : r.length = m) :
  Calls Tryz.prog 62 #[.slice A n c, .slice B m k] w fun e w' => e = .returned (.bool (decide (l = r))) ∧ w = w' := by
 have q1 := run_str (P := Tryz.prog) (w := w) 28 9 5 Tryz.underlying28 Tryz.underlying5 Tryz.underlying9 A n c w.heap.size l hA hl
 have q2 := run_str (P := Tryz.prog) (w := w) 28 9 5 Tryz.underlying28 Tryz.underlying5 Tryz.underlying9 B m k w.heap.size r hB hr
 have q3 : ((str l).toList == (str r).toList) = decide (l = r) := by
  rw [str_toList, str_toList]
  by_cases h : l = r <;> simp [h]
 clear hA hB hl hr
 go_enter Tryz.func62, Tryz.ntmps62
 go_wp2
 go_ret
 exact ⟨rfl, rfl⟩
theorem d_field {P : Program} {V : Value → World → Prop} {w : World} {ρ : Operand → Value} {o : Oper} {c : Value} {T : TypeId} {x : Operand} {k : Nat} {cx : Value} (ho : o.op = .fieldAddr T x k) (hx : ρ x = cx) (hr : (Instr.fieldAt T cx k).run P w = .ok c w) (hV : V c w) : Free.Does P V w ρ o := by
 unfold Free.Does; simp only [execOp, ho, hx, Sem.run_bind, hr, Sem.run_pure, Result.andThen_ok]; exact ⟨hV, Below.refl _ _⟩
theorem is_same (A : Option Addr) (n c : Nat) (B : Option Addr) (m k : Nat) (l : List UInt8) (w : World) (hA : Rd w w.heap.size A (l.map bv)) (hl : l.length = n) (hB : Rd w w.heap.size B (l.map bv)) (hr : l.length = m) :
  Calls Tryz.prog 22 #[.agg #[.slice A n c, .slice B m k]] w fun e w' => e = .returned (.bool false) ∧ Below w.heap.size w w' := by
 obtain ⟨W0, hW0⟩ : ∃ W, w.alloc (.cells #[.slice A n c, .slice B m k] 52) = W := ⟨_, rfl⟩
 obtain ⟨h, hh⟩ : ∃ h, w.heap.size = h := ⟨_, rfl⟩
 have hrow : Row W0 h #[.slice A n c, .slice B m k] 52 := by rw [← hW0, ← hh]; exact row_new w _ _
 have hb0 : Below w.heap.size w W0 := by rw [← hW0]; exact (Below.refl _ w).alloc (Nat.le_refl _) _
 have hc0 : ∀ W, Below W0.heap.size W0 W → W.cell? ⟨h, 0, none⟩ = some (.slice A n c) := fun W hW => (Row.belowS hrow hW (Nat.le_refl _)).cellQ 0 _ rfl
 have hc1 : ∀ W, Below W0.heap.size W0 W → W.cell? ⟨h, 1, none⟩ = some (.slice B m k) := fun W hW => (Row.belowS hrow hW (Nat.le_refl _)).cellQ 1 _ rfl
 have he : ∀ W, Below W0.heap.size W0 W → Calls Tryz.prog 62 #[.slice A n c, .slice B m k] W fun e w' => e = .returned (.bool true) ∧ W = w' := fun W hW => by
  have hbw := bt hb0 hW
  exact (equal_any A n c l B m k l W ((hA.below' hbw (Nat.le_refl _)).more hbw.size) hl ((hB.below' hbw (Nat.le_refl _)).more hbw.size) hr).mono fun e w' h => ⟨by rw [h.1]; simp, h.2⟩
 have HB0 := Lib.hid hb0
 clear hA hB hl hr hrow hb0
 go_enter Tryz.func22, Tryz.ntmps22
 go_wp2_with fail
 (try rw [hW0]); (try rw [hh])
 refine Free.wp_free_l 16 (fun W => Below W0.heap.size W0 W) [Free.kc (.pointer (some ⟨h, 0, none⟩)), Free.kc (.slice A n c), Free.kc (.pointer (some ⟨h, 1, none⟩)), Free.kc (.slice B m k), Free.kc (.bool true), Free.kc (.bool false), Free.kc (.bool false), Free.kc (undef), Free.kc (undef), Free.kc (undef), Free.kc (undef), Free.kc (undef), Free.kc (undef), Free.kc (undef), Free.kc (.bool false), Free.kc (.bool false)] (by kernel_rfl) (by kernel_rfl) (by decide) (Below.refl _ _).drew (fun w w' h g => bt h g) ?_ ?_
 ·
  iterate 16 refine Free.forall_succ ?_ ?_
  all_goals first | exact Free.forall_zero | (refine Free.op fun vals wq hC hd => ?_) | skip
  · exact d_field (cx := .pointer (some ⟨h, 0, none⟩)) rfl (by kernel_rfl) (by go_simp) rfl
  · exact Free.d_load rfl (Free.tr 0 hd) (by have hcc := hc0 wq hC; go_simp) rfl
  · exact d_field (cx := .pointer (some ⟨h, 0, none⟩)) rfl (by kernel_rfl) (by go_simp) rfl
  · exact Free.d_load rfl (Free.tr 2 hd) (by have hcc := hc1 wq hC; go_simp) rfl
  · exact Free.d_call Tryz.func62 (by kernel_rfl) (by kernel_rfl) rfl rfl (Free.arg2 (Free.tr 1 hd) (Free.tr 3 hd)) ((he wq hC).mono fun e w2 h => ⟨_, h.1, rfl, (by have h2 := h.2; subst h2; exact Below.refl _ _)⟩)
  · exact Free.d_un rfl (Free.tr 4 hd) (by go_simp) rfl
  · exact Free.d_move rfl (Free.tr 5 hd) rfl
  · exact Free.skl 6 9 true
  · exact Free.skl 6 9 true
  · exact Free.skl 6 9 true
  · exact Free.skl 6 9 true
  · exact Free.skl 6 9 true
  · exact Free.skl 6 9 true
  · exact Free.skl 6 9 true
  · exact Free.d_pick rfl (Eq.trans (b := vals 6) (by kernel_rfl) (hd 6 (by kernel_rfl))) rfl rfl
  · exact Free.d_assign rfl (Free.tr 14 hd) rfl
 ·
  intro vals wq hC hd
  refine Free.go hd ?_
  rintro _ rfl _ rfl _ rfl _ rfl _ rfl _ rfl _ rfl _ rfl _ rfl _ rfl _ rfl _ rfl _ rfl _ rfl _ rfl _ rfl
  simp only [Free.All, Free.fl, Act.put, Free.sa, Free.s0, Free.s1]
  refine wpList_nil ?_
  clear hd
  go_wp2
  go_ret
  exact ⟨rfl, bt HB0.out hC⟩
theorem rbytes_any (kd : UInt8) (A : Option Addr) (n c : Nat) (l : List UInt8) (w : World) (hr : Rd w w.heap.size A (l.map bv)) (hn : l.length = n) (hc : n ≤ c) (hm : c ≤ maxLen) (hs : n ≤ 1000000) :
  Calls Tryz.prog 61 #[.int .i64 (kd.toNat : Int), .slice A n c] w (JoinPost kd l w) := by
 rw [maxLen_eq] at hm
 have HR := Lib.hid (And.intro hr hn)
 have hk0 := kd.toNat_lt
 clear hr hn
 go_enter Tryz.func61, Tryz.ntmps61
 go_wp2
 go_loopw [5, 6] (fun v i wr => ∃ (k u : Nat) (A6 : Option Addr) (c6 : Nat), k ≤ n ∧ i = .int .i64 k ∧ u = k + 1 ∧ v = .slice A6 u c6 ∧ u ≤ c6 ∧ c6 ≤ 9223372036854775807 ∧ wr.ownsRow w.heap.size 5 1 (.slice A6 u c6) u ((kd :: l.take k).map bv) ∧ Below w.heap.size w wr) (fun _ i _ => n - (intOf i).toNat)
 case atStart => exact ⟨0, 1, _, 1, by omega, rfl, rfl, rfl, Nat.le_refl _, by omega, own_new w [bv kd] 5 1 1 rfl (by decide) (Nat.le_refl _), (Below.refl _ w).alloc (Nat.le_refl _) _⟩
 case round =>
  obtain ⟨k, u, A6, c6, hk, rfl, hu, rfl, hc6, hc6', hown, hbel⟩ := hrel
  have HO := Lib.hid hown
  have HB := Lib.hid hbel
  have HU := Lib.hid hu
  have hu2 : u ≤ n + 1 := by omega
  clear hown hbel hu
  by_cases hlt : k < n
  ·
   obtain ⟨b, off, rfl, hb, hcell⟩ := HR.out.1 (fun h => by
    have h2 : l = [] := by simpa using h
    have h3 := HR.out.2
    rw [h2] at h3
    simp at h3; omega)
   obtain ⟨x, hx⟩ : ∃ x, l[k]? = some x := ⟨_, List.getElem?_eq_getElem (by rw [HR.out.2]; exact hlt)⟩
   have x0 : _ = some (Value.int .u8 (x.toNat : Int)) := (HB.out.cell (p := ⟨b, off + k, none⟩) hb).trans (hcell k (bv x) (by rw [List.getElem?_map, hx]; rfl))
   have HX := Lib.hid hx
   clear hcell hx
   go_wp2_with (first
    | (at_builtin; refine wl_app rfl (.tmp 16) (.tmp 21) 28 rfl w.heap.size 5 1 1 bytesT _ u _ rfl (HO.out.alloc _) (_ + 1) (some ⟨_, 0, none⟩) 1 1 [bv x] rfl (rd_new _ [bv x] 5 (0, 0)) rfl (by simp [bv, Value.oneCell']) (by rw [maxLen_eq]; omega) (by omega) (Nat.le_trans HB.out.size (by unfold World.alloc; simp)) ?_; intro A3 c3 w3 hown3 hg3 hat3 hb3 hd3 hd3'; have HO3 := Lib.hid hown3; have HB3 := Lib.hid ((HB.out.alloc HB.out.size _).trans hb3); have HC3 := Lib.hid (And.intro hd3 hd3'); clear hown3 hg3 hat3 hb3 hd3 hd3'))
   go_roundw
   case rel => exact ⟨k + 1, u + 1, A3, c3, by omega, by go_num, by have := HU.out; omega, rfl, HC3.out.1, by have := HC3.out.2; rw [maxLen_eq] at this; exact this, by rw [List.take_add_one, HX.out, Option.toList_some, ← List.cons_append]; exact own_snoc HO3.out rfl, HB3.out⟩
   case measure => simp [intOf]; omega
  ·
   obtain rfl : k = n := by omega
   have ht : l.take k = l := List.take_of_length_le (by rw [HR.out.2]; exact Nat.le_refl _)
   have hfin := HO.out
   rw [ht] at hfin
   have HF := Lib.hid hfin
   clear ht hfin
   go_wp2
   go_ret
   exact ⟨A6, c6, by rw [HR.out.2, ← HU.out]; rfl, by rw [HR.out.2, ← HU.out]; exact HF.out, by rw [HR.out.2, ← HU.out]; exact hc6, by rw [maxLen_eq]; exact hc6', HB.out⟩
theorem rof_any (kd : UInt8) (A : Option Addr) (n c : Nat) (l : List UInt8) (w : World) (hr : Rd w w.heap.size A (l.map bv)) (hn : l.length = n) (hc : n ≤ c) (hm : c ≤ maxLen) (hs : n ≤ 1000000) :
  Calls Tryz.prog 56 #[.int .i64 (kd.toNat : Int), .slice A n c] w (SealPost kd l w) := by
 have HR := Lib.hid (And.intro hr (And.intro hn hm))
 clear hr hn hm
 go_enter Tryz.func56, Tryz.ntmps56
 go_wp2_with fail
 refine (rbytes_any kd A n c l w HR.out.1 HR.out.2.1 hc HR.out.2.2 hs).mono ?_
 rintro e w1 ⟨A1, c1, rfl, ho, h1, h2, hb⟩
 have HO := Lib.hid (And.intro ho (And.intro h1 (And.intro h2 hb)))
 clear ho h1 h2 hb
 go_wp2_with fail
 refine Calls.mono (show Calls Tryz.prog 100 #[.slice A1 (l.length + 1) c1] w1 (RSumPost (kd :: l) w1) from rsum_any A1 (l.length + 1) c1 (kd :: l) w1 (Rd.of_own HO.out.1) rfl HO.out.2.1 HO.out.2.2.1 (by rw [HR.out.2.1]; omega)) ?_
 rintro e w2 ⟨rfl, hb2⟩
 have HB2 := Lib.hid (bt HO.out.2.2.2 hb2)
 clear hb2
 go_wp2
 go_ret
 exact ⟨rfl, HB2.out⟩
theorem str_append (a b : List UInt8) : str a ++ str b = str (a ++ b) := by
 apply ByteArray.ext
 simp [str, ByteArray.data_append]
theorem rnode_any (l r : List UInt8) (w : World) (hl : l.length ≤ 100000) (hr : r.length ≤ 100000) :
  Calls Tryz.prog 97 #[sv l, sv r] w (SealPost 1 (l ++ r) w) := by
 have hap := str_append l r
 have z1 := str_size l
 have z2 := str_size r
 go_enter Tryz.func97, Tryz.ntmps97
 go_wp2_with (first
  | (refine wl_bytes rfl 9 28 (.tmp 7) rfl 5 Tryz.underlying9 Tryz.underlying28 Tryz.underlying5 (l ++ r) rfl (by rw [maxLen_eq, List.length_append]; omega) ?_; intro A1 c1 w1 hr1 hc1 hc1' hb1; have H1 := Lib.hid (And.intro hr1 (And.intro hc1 (And.intro hc1' hb1))); clear hr1 hc1 hc1' hb1))
 refine Calls.mono (show Calls Tryz.prog 56 #[.int .i64 ((1 : UInt8).toNat : Int), .slice A1 (l.length + r.length) c1] w1 (SealPost 1 (l ++ r) w1) from rof_any 1 A1 (l.length + r.length) c1 (l ++ r) w1 H1.out.1 (by rw [List.length_append]) (by have h := H1.out.2.1; rw [List.length_append] at h; exact h) H1.out.2.2.1 (by omega)) ?_
 rintro e w2 ⟨rfl, hb2⟩
 have HB2 := Lib.hid (bt H1.out.2.2.2 hb2)
 clear hb2
 go_wp2
 go_ret
 exact ⟨rfl, HB2.out⟩
def clashB (a b : List UInt8) : Bool := decide (Sha.sum a = Sha.sum b) && decide (a ≠ b)
def BoolPost (v : Bool) (w : World) (e : Ending) (w' : World) : Prop := e = .returned (.bool v) ∧ Below w.heap.size w w'
def ClonePost (n : Nat) (l : List UInt8) (w : World) (e : Ending) (w' : World) : Prop :=
 ∃ A c, e = .returned (.slice A n c) ∧ w'.ownsRow w.heap.size 5 1 (.slice A n c) n (l.map bv) ∧ n ≤ c ∧ c ≤ maxLen ∧ Below w.heap.size w w'
theorem clone_any (A : Option Addr) (n c : Nat) (l : List UInt8) (w : World) (hr : Rd w w.heap.size A (l.map bv)) (hl : l.length = n) (hc : n ≤ c) (hm : c ≤ maxLen) (hs : n ≤ 100000000) :
  Calls Tryz.prog 132 #[.slice A n c] w (ClonePost n l w) := by
 have HR := Lib.hid (And.intro hr (And.intro hl hm))
 have e1 := Lib.run_eql_slice_nil (P := Tryz.prog) w 28 5 A n c 0 0 Tryz.underlying28
 rw [maxLen_eq] at hm
 clear hr hl
 cases A with
 | none =>
  have hz : l = [] := by
   rcases l with _ | ⟨x, t⟩
   · rfl
   ·
    obtain ⟨b, off, h, _⟩ := HR.out.1 (by simp)
    cases h
  have HZ := Lib.hid hz
  clear hz
  go_enter Tryz.func132, Tryz.ntmps132
  go_wp2
  go_ret
  have hn0 : n = 0 := by rw [← HR.out.2.1, HZ.out]; rfl
  exact ⟨none, 0, by rw [hn0]; rfl, by rw [HZ.out, hn0]; exact own_nil _ _ _ _, by omega, Nat.zero_le _, Below.refl _ _⟩
 | some ad =>
  go_enter Tryz.func132, Tryz.ntmps132
  go_wp2_with (first
   | (at_builtin; refine wl_app rfl (.tmp 5) (.tmp 6) 28 rfl w.heap.size 5 1 1 bytesT _ 0 [] rfl (own_empty w 5 1 (Nat.le_refl _)) w.heap.size (some ad) n c (l.map bv) rfl (HR.out.1.alloc (Nat.le_refl _) _) (by simpa using HR.out.2.1) (one_bv _) (by rw [maxLen_eq]; omega) (by omega) (by unfold World.alloc; simp) ?_; intro A1 k1 w3 hown1 hg1 hat1 hb1 hc1 hc2; simp only [Nat.zero_add, List.nil_append] at hown1 hc1; have HR3 := Lib.hid (And.intro hown1 (And.intro hc1 hc2)); have HB3 := Lib.hid (((Below.refl w.heap.size w).alloc (Nat.le_refl _) _).trans hb1); clear hg1 hat1 hb1 hown1 hc1 hc2))
  go_ret
  exact ⟨A1, k1, by simp, HR3.out.1, HR3.out.2.1, HR3.out.2.2, HB3.out⟩
theorem is_diff (A : Option Addr) (n c : Nat) (B : Option Addr) (m k : Nat) (a b : List UInt8) (w : World) (hA : Rd w w.heap.size A (a.map bv)) (hl : a.length = n) (hc : n ≤ c) (hm : c ≤ maxLen) (hn : n ≤ 1000000)
  (hB : Rd w w.heap.size B (b.map bv)) (hr : b.length = m) (hk : m ≤ k) (hk2 : k ≤ maxLen) (hn2 : m ≤ 1000000) (hne : a ≠ b) (ht : Tabs w) :
  Calls Tryz.prog 22 #[.agg #[.slice A n c, .slice B m k]] w fun e w' => e = .returned (.bool (decide (Sha.sum a = Sha.sum b))) ∧ Below w.heap.size w w' := by
 obtain ⟨W0, hW0⟩ : ∃ W, w.alloc (.cells #[.slice A n c, .slice B m k] 52) = W := ⟨_, rfl⟩
 obtain ⟨h, hh⟩ : ∃ h, w.heap.size = h := ⟨_, rfl⟩
 have hrow : Row W0 h #[.slice A n c, .slice B m k] 52 := by rw [← hW0, ← hh]; exact row_new w _ _
 have hb0 : Below w.heap.size w W0 := by rw [← hW0]; exact (Below.refl _ w).alloc (Nat.le_refl _) _
 have hc0 : ∀ W, Below W0.heap.size W0 W → W.cell? ⟨h, 0, none⟩ = some (.slice A n c) := fun W hW => (Row.belowS hrow hW (Nat.le_refl _)).cellQ 0 _ rfl
 have hc1 : ∀ W, Below W0.heap.size W0 W → W.cell? ⟨h, 1, none⟩ = some (.slice B m k) := fun W hW => (Row.belowS hrow hW (Nat.le_refl _)).cellQ 1 _ rfl
 have he : ∀ W, Below W0.heap.size W0 W → Calls Tryz.prog 62 #[.slice A n c, .slice B m k] W fun e w' => e = .returned (.bool false) ∧ W = w' := fun W hW => by
  have hbw := bt hb0 hW
  exact (equal_any A n c a B m k b W ((hA.below' hbw (Nat.le_refl _)).more hbw.size) hl ((hB.below' hbw (Nat.le_refl _)).more hbw.size) hr).mono fun e w' h => ⟨by rw [h.1]; simp [hne], h.2⟩
 obtain ⟨S, hS⟩ : ∃ S, Sha.sum a = S := ⟨_, rfl⟩
 obtain ⟨T, hT⟩ : ∃ T, Sha.sum b = T := ⟨_, rfl⟩
 have hs1 : ∀ W, Below W0.heap.size W0 W → Calls Tryz.prog 63 #[.slice A n c] W fun e w' => e = .returned (sv S) ∧ Below W.heap.size W w' := fun W hW => by
  have hbw := bt hb0 hW
  have htw := ht.below hbw
  have h := sum_any A n c a W ((hA.below' hbw (Nat.le_refl _)).more hbw.size) hl hc hm (by omega) htw.r htw.b
  unfold SumPost at h
  rw [hS] at h
  exact h
 have hs2 : ∀ W, Below W0.heap.size W0 W → Calls Tryz.prog 63 #[.slice B m k] W fun e w' => e = .returned (sv T) ∧ Below W.heap.size W w' := fun W hW => by
  have hbw := bt hb0 hW
  have htw := ht.below hbw
  have h := sum_any B m k b W ((hB.below' hbw (Nat.le_refl _)).more hbw.size) hr hk hk2 (by omega) htw.r htw.b
  unfold SumPost at h
  rw [hT] at h
  exact h
 rw [hS, hT]
 have HB0 := Lib.hid hb0
 clear hA hB hl hr hrow hb0 hS hT hne ht
 go_enter Tryz.func22, Tryz.ntmps22
 go_wp2_with fail
 (try rw [hW0]); (try rw [hh])
 refine Free.wp_free_l 16 (fun W => Below W0.heap.size W0 W) [Free.kc (.pointer (some ⟨h, 0, none⟩)), Free.kc (.slice A n c), Free.kc (.pointer (some ⟨h, 1, none⟩)), Free.kc (.slice B m k), Free.kc (.bool false), Free.kc (.bool true), Free.kc (.bool true), Free.kc (.pointer (some ⟨h, 0, none⟩)), Free.kc (.slice A n c), Free.kc (sv S), Free.kc (.pointer (some ⟨h, 1, none⟩)), Free.kc (.slice B m k), Free.kc (sv T), Free.kc (.bool (decide (S = T))), Free.kc (.bool (decide (S = T))), Free.kc (.bool (decide (S = T)))] (by kernel_rfl) (by kernel_rfl) (by decide) (Below.refl _ _).drew (fun w w' h g => bt h g) ?_ ?_
 ·
  iterate 16 refine Free.forall_succ ?_ ?_
  all_goals first | exact Free.forall_zero | (refine Free.op fun vals wq hC hd => ?_) | skip
  · exact d_field (cx := .pointer (some ⟨h, 0, none⟩)) rfl (by kernel_rfl) (by go_simp) rfl
  · exact Free.d_load rfl (Free.tr 0 hd) (by have hcc := hc0 wq hC; go_simp) rfl
  · exact d_field (cx := .pointer (some ⟨h, 0, none⟩)) rfl (by kernel_rfl) (by go_simp) rfl
  · exact Free.d_load rfl (Free.tr 2 hd) (by have hcc := hc1 wq hC; go_simp) rfl
  · exact Free.d_call Tryz.func62 (by kernel_rfl) (by kernel_rfl) rfl rfl (Free.arg2 (Free.tr 1 hd) (Free.tr 3 hd)) ((he wq hC).mono fun e w2 h => ⟨_, h.1, rfl, (by have h2 := h.2; subst h2; exact Below.refl _ _)⟩)
  · exact Free.d_un rfl (Free.tr 4 hd) (by go_simp) rfl
  · exact Free.d_move rfl (Free.tr 5 hd) rfl
  · refine Free.og 6 9 true fun vals wq hC hd => ?_; exact d_field (cx := .pointer (some ⟨h, 0, none⟩)) rfl (by kernel_rfl) (by go_simp) rfl
  · refine Free.og 6 9 true fun vals wq hC hd => ?_; exact Free.d_load rfl (Free.tr 7 hd) (by have hcc := hc0 wq hC; go_simp) rfl
  · refine Free.og 6 9 true fun vals wq hC hd => ?_; exact Free.d_call Tryz.func63 (by kernel_rfl) (by kernel_rfl) rfl rfl (Free.arg1 (Free.tr 8 hd)) ((hs1 wq hC).mono fun e w2 h => ⟨_, h.1, rfl, h.2⟩)
  · refine Free.og 6 9 true fun vals wq hC hd => ?_; exact d_field (cx := .pointer (some ⟨h, 0, none⟩)) rfl (by kernel_rfl) (by go_simp) rfl
  · refine Free.og 6 9 true fun vals wq hC hd => ?_; exact Free.d_load rfl (Free.tr 10 hd) (by have hcc := hc1 wq hC; go_simp) rfl
  · refine Free.og 6 9 true fun vals wq hC hd => ?_; exact Free.d_call Tryz.func63 (by kernel_rfl) (by kernel_rfl) rfl rfl (Free.arg1 (Free.tr 11 hd)) ((hs2 wq hC).mono fun e w2 h => ⟨_, h.1, rfl, h.2⟩)
  · refine Free.og 6 9 true fun vals wq hC hd => ?_; exact Free.d_bin rfl (Free.tr 9 hd) (Free.tr 12 hd) (by go_simp) (run_eql_str _ _ _) rfl
  · exact Free.d_pick rfl (Eq.trans (b := vals 6) (by kernel_rfl) (hd 6 (by kernel_rfl))) (Eq.trans (b := vals 13) (by kernel_rfl) (hd 13 (by kernel_rfl))) rfl
  · exact Free.d_assign rfl (Free.tr 14 hd) rfl
 ·
  intro vals wq hC hd
  refine Free.go hd ?_
  rintro _ rfl _ rfl _ rfl _ rfl _ rfl _ rfl _ rfl _ rfl _ rfl _ rfl _ rfl _ rfl _ rfl _ rfl _ rfl _ rfl
  simp only [Free.All, Free.fl, Act.put, Free.sa, Free.s0, Free.s1]
  refine wpList_nil ?_
  clear hd
  go_wp2
  go_ret
  exact ⟨rfl, bt HB0.out hC⟩
theorem is_any (A : Option Addr) (n c : Nat) (B : Option Addr) (m k : Nat) (a b : List UInt8) (w : World) (hA : Rd w w.heap.size A (a.map bv)) (hl : a.length = n) (hc : n ≤ c) (hm : c ≤ maxLen) (hn : n ≤ 1000000)
  (hB : Rd w w.heap.size B (b.map bv)) (hr : b.length = m) (hk : m ≤ k) (hk2 : k ≤ maxLen) (hn2 : m ≤ 1000000) (ht : Tabs w) :
  Calls Tryz.prog 22 #[.agg #[.slice A n c, .slice B m k]] w (BoolPost (clashB a b) w) := by
 by_cases h : a = b
 ·
  subst h
  refine (is_same A n c B m k a w hA hl hB hr).mono fun e w' h => ⟨?_, h.2⟩
  rw [h.1]; simp [clashB]
 ·
  refine (is_diff A n c B m k a b w hA hl hc hm hn hB hr hk hk2 hn2 h ht).mono fun e w' h' => ⟨?_, h'.2⟩
  rw [h'.1]; simp [clashB, h]
end Go.Proofs.YteoledjllpgcbaaGreatDoor
