/- MClashB: several texts of this claim in one file. No statement of the seat is proved here. -/
import Derived.Test.YteoledjllpgcbaaDoorMClashA
namespace Go.Proofs.YteoledjllpgcbaaDoor
set_option maxRecDepth 100000
set_option maxHeartbeats 64000000
set_option linter.unusedVariables false
open Go.RowKit
theorem cleaf_range (A : Option Addr) (nl cl : Nat) (i : Int) (v2 v3 : Value) (w : World) (hc : nl ≤ cl) (hm : cl ≤ maxLen) (hbad : i < 0 ∨ (nl : Int) ≤ i) :
  Calls Tryd.prog 31 #[.slice A nl cl, .int .i64 i, v2, v3] w (ResPost w.heap.size none w) := by
 rw [maxLen_eq] at hm
 have hrow := row_new w #[.slice none 0 0, .slice none 0 0] 41
 have HB0 := Lib.hid (show Below w.heap.size w (w.alloc (.cells #[.slice none 0 0, .slice none 0 0] 41)) from (Below.refl _ w).alloc (Nat.le_refl _) _)
 have x0 := hrow.cellQ 0 _ rfl
 have x1 := hrow.cellQ 1 _ rfl
 have f0 := hrow.frozen 0
 have f1 := hrow.frozen 1
 have HROW := Lib.hid (show ∀ u v, Row (setFrom w.heap.size (w.alloc (.cells #[.slice none 0 0, .slice none 0 0] 41)) 0 [u, v]) w.heap.size #[u, v] 41 from fun u v => hrow.all [u, v] rfl)
 clear hrow
 by_cases h0 : i < 0
 ·
  clear hbad
  go_enter Tryd.func31, Tryd.ntmps31
  go_wp2
  refine bodyPost_ret (v := .tuple #[.agg #[.slice none 0 0, .slice none 0 0], .bool false]) (by simp [results, Tryd.results31, go_sem, x0, x1]) rfl ?_
  exact ⟨none, 0, 0, none, 0, 0, rfl, Fr.nil _ _, Fr.nil _ _, HB0.out⟩
 ·
  have h1 : (nl : Int) ≤ i := by omega
  clear hbad
  go_enter Tryd.func31, Tryd.ntmps31
  go_wp2
  refine bodyPost_ret (v := .tuple #[.agg #[.slice none 0 0, .slice none 0 0], .bool false]) (by simp [results, Tryd.results31, go_sem, x0, x1]) rfl ?_
  exact ⟨none, 0, 0, none, 0, 0, rfl, Fr.nil _ _, Fr.nil _ _, HB0.out⟩
theorem cleaf_proof (Al : Option Addr) (nl cl : Nat) (i : Nat) (Ax : Option Addr) (nx cx : Nat) (leaf : List UInt8) (Ap : Option Addr) (np cp : Nat) (p : List (List UInt8)) (w : World) (hc : nl ≤ cl) (hm : cl ≤ maxLen) (hn : nl ≤ 300)
  (hi : i < nl) (hx : Bs w Ax nx cx leaf) (hx2 : nx ≤ 1000) (hp : Ss w Ap np cp p) (hwf : ∀ s ∈ p, s.length ≤ maxLen) (hbad : ¬ np = (Tree.sides i nl).length ∨ Tree.all32 p = false) (ht : Tabs w) :
  Calls Tryd.prog 31 #[.slice Al nl cl, .int .i64 (i : Int), .slice Ax nx cx, .slice Ap np cp] w (ResPost w.heap.size none w) := by
 rw [maxLen_eq] at hm
 have HB0 := Lib.hid (show Below w.heap.size w (w.alloc (.cells #[.slice none 0 0, .slice none 0 0] 41)) from (Below.refl _ w).alloc (Nat.le_refl _) _)
 have HROW0 := Lib.hid (row_new w #[.slice none 0 0, .slice none 0 0] 41)
 obtain ⟨d0, hd0⟩ : ∃ d, seal_ 0 leaf = d := ⟨_, rfl⟩
 have hd32 : d0.length = 32 := by rw [← hd0]; exact seal_len _ _
 have CY := Lib.hid (fun (W : World) (hW : Below w.heap.size w W) => climb_proof d0 i nl Ap np cp p W hd32 hi (by omega) (hp.keep hW) hwf hbad)
 have cl1 := fun (W : World) (hW : Below w.heap.size w W) => leaf_any Ax nx cx leaf W (hx.keep hW).rd hx.len hx.cap hx.max (by omega) (ht.below hW)
 unfold SealPost at cl1
 rw [hd0] at cl1
 have CLL := Lib.hid cl1
 have g1 : ¬ (i : Int) < 0 := by omega
 have g2 : ¬ (nl : Int) ≤ (i : Int) := by omega
 clear hp hwf hbad hx ht cl1 hd0
 go_enter Tryd.func31, Tryd.ntmps31
 go_wp2_with fail
 refine (CLL.out _ HB0.out).mono ?_
 rintro e w1 ⟨rfl, hb1⟩
 have HB1 := Lib.hid (bt HB0.out hb1)
 have HR1 := Lib.hid (HROW0.out.belowS hb1 (Nat.le_refl _))
 clear hb1
 go_wp2_with fail
 refine (CY.out _ HB1.out).mono ?_
 rintro e w2 ⟨rfl, hb2⟩
 have HB2 := Lib.hid (bt HB1.out hb2)
 have hrow := HR1.out.belowS hb2 (Nat.le_refl _)
 have x0 := hrow.cellQ 0 _ rfl
 have x1 := hrow.cellQ 1 _ rfl
 have f0 := hrow.frozen 0
 have f1 := hrow.frozen 1
 have HROW := Lib.hid (show ∀ u v, Row (setFrom w.heap.size w2 0 [u, v]) w.heap.size #[u, v] 41 from fun u v => hrow.all [u, v] rfl)
 clear hb2 hrow
 go_wp2
 generalize hwd : World.setCell (World.setCell w2 _ _) _ _ = wd
 have hsf : setFrom w.heap.size w2 0 [.slice none 0 0, .slice none 0 0] = wd := by rw [← hwd]; rfl
 have r0 : wd.cell? ⟨w.heap.size, 0, none⟩ = some (.slice none 0 0) := by rw [← hsf]; exact (HROW.out _ _).cellQ 0 _ rfl
 have r1 : wd.cell? ⟨w.heap.size, 1, none⟩ = some (.slice none 0 0) := by rw [← hsf]; exact (HROW.out _ _).cellQ 1 _ rfl
 refine bodyPost_ret (v := .tuple #[.agg #[.slice none 0 0, .slice none 0 0], .bool false]) (by simp [results, Tryd.results31, go_sem, r0, r1]) rfl ?_
 rw [← hsf]
 exact ⟨none, 0, 0, none, 0, 0, rfl, Fr.nil _ _, Fr.nil _ _, below_setFrom (Nat.le_refl _) _ 0 HB2.out⟩
theorem rows_rd {w : World} {A : Option Addr} {n : Nat} {f : Nat → Piece} (h : RowsAt w A n f) : Rd w w.heap.size A ((List.range n).map fun i => pv (f i)) := fun hn => by
 have h0 : 0 < n := by
  rcases Nat.eq_zero_or_pos n with e | e
  · subst e; exact absurd rfl hn
  · exact e
 obtain ⟨b, off, e, hlt, hc⟩ := h h0
 refine ⟨b, off, e, hlt, fun k v hv => ?_⟩
 rw [List.getElem?_map] at hv
 by_cases hk : k < n
 ·
  rw [List.getElem?_range hk] at hv
  injection hv with hv
  rw [← hv]
  exact (hc k hk).1
 · rw [List.getElem?_eq_none (by rw [List.length_range]; omega)] at hv; cases hv
theorem rows_pc {w : World} {A : Option Addr} {n : Nat} {f : Nat → Piece} (h : RowsAt w A n f) {i : Nat} (hi : i < n) : PieceAt w (f i) := by
 obtain ⟨b, off, e, hlt, hc⟩ := h (by omega)
 exact (hc i hi).2
theorem rd_rows {w : World} {A : Option Addr} {n : Nat} {f : Nat → Piece} {xs : List Value} (h : Rd w w.heap.size A xs) (hx : ∀ i, i < n → xs[i]? = some (pv (f i))) (hp : ∀ i, i < n → PieceAt w (f i)) : RowsAt w A n f := fun hn => by
 obtain ⟨b, off, e, hlt, hc⟩ := h (by intro e; have := hx 0 hn; rw [e] at this; simp at this)
 exact ⟨b, off, e, hlt, fun i hi => ⟨hc i _ (hx i hi), hp i hi⟩⟩
section
variable {ops : Array Oper} {rest : List Oper} {o : Oper} {a : Act} {Q : Exit → Act → World → Prop} {w : World}
theorem wl_cutR_hi (hgd : o.guard = none) (x hi : Operand) (ho : o.op = .slice 49 x none (some hi) none) {A : Option Addr} {n c : Nat} {f : Nat → Piece} (hx : a.eval x = .slice A n c) (h1 : RowsAt w A n f) (hc : n ≤ c) (k : Nat) (hhi : a.eval hi = .int .i64 (k : Int)) (hk : k ≤ n)
  (h : ∀ A', RowsAt w A' k f → wpList Tryd.prog ops Q rest (a.put o.dst (.slice A' k c)) w) : wpList Tryd.prog ops Q (o :: rest) a w :=
 wl_cut_hi hgd 49 x hi ho 28 (by kernel_rfl) (by kernel_rfl) A n c hx .i64 (k : Int) hhi (by omega) (by omega) hc _ _ (rows_rd h1) fun A' hr => by
  rw [Int.toNat_natCast] at hr ⊢
  exact h A' (rd_rows hr (fun i hi => by rw [List.getElem?_take_of_lt hi, List.getElem?_map, List.getElem?_range (by omega)]; rfl) (fun i hi => rows_pc h1 (by omega)))
theorem wl_cutR_lo (hgd : o.guard = none) (x lo : Operand) (ho : o.op = .slice 49 x (some lo) none none) {A : Option Addr} {n c : Nat} {f : Nat → Piece} (hx : a.eval x = .slice A n c) (h1 : RowsAt w A n f) (hc : n ≤ c) (k : Nat) (hlo : a.eval lo = .int .i64 (k : Int)) (hk : k ≤ n)
  (h : ∀ A', RowsAt w A' (n - k) (fun i => f (k + i)) → wpList Tryd.prog ops Q rest (a.put o.dst (.slice A' (n - k) (c - k))) w) : wpList Tryd.prog ops Q (o :: rest) a w :=
 wl_cut_lo hgd 49 x lo ho 28 (by kernel_rfl) (by kernel_rfl) A n c hx .i64 (k : Int) hlo (by omega) (by omega) hc _ _ (rows_rd h1) (by simp) fun A' hr => by
  rw [Int.toNat_natCast] at hr ⊢
  exact h A' (rd_rows hr (fun i hi => by rw [List.getElem?_drop, List.getElem?_map, List.getElem?_range (by omega)]; rfl) (fun i hi => rows_pc h1 (by omega)))
end
theorem raws_take (f : Nat → Piece) (n k : Nat) (h : k ≤ n) : (raws f n).take k = raws f k := by
 unfold raws
 rw [← List.map_take, List.take_range, Nat.min_eq_left h]
theorem raws_drop (f : Nat → Piece) (n k : Nat) : (raws f n).drop k = raws (fun j => f (k + j)) (n - k) := by
 apply List.ext_getElem?
 intro i
 unfold raws
 rw [List.getElem?_drop, List.getElem?_map, List.getElem?_map]
 by_cases h : i < n - k
 · rw [List.getElem?_range h, List.getElem?_range (by omega)]; rfl
 · rw [List.getElem?_eq_none (by rw [List.length_range]; omega), List.getElem?_eq_none (by rw [List.length_range]; omega)]; rfl
theorem topB_le {l : List (List UInt8)} (h : ∀ s ∈ l, s.length = 32) : (Cl.topB l).length ≤ 1000 := by
 unfold Cl.topB
 rw [List.length_cons, List.length_append, troot_len (all_take h _), troot_len (all_drop h _)]
 omega
def ResOk (w : World) (L : Nat) (r : Option (List UInt8 × List UInt8)) (v : Value) : Prop := ∃ A n c B m k, v = .tuple #[.agg #[.slice A n c, .slice B m k], .bool r.isSome] ∧ Fr w L A n c (cl1 r) ∧ Fr w L B m k (cl2 r)
theorem ResOk.keep {w w' : World} {L : Nat} {r : Option (List UInt8 × List UInt8)} {v : Value} (h : ResOk w L r v) (hb : Below w.heap.size w w') : ResOk w' L r v := by
 obtain ⟨A, n, c, B, m, k, e, h1, h2⟩ := h
 exact ⟨A, n, c, B, m, k, e, h1.keep hb, h2.keep hb⟩
def AggOk (w : World) (L : Nat) (r : Option (List UInt8 × List UInt8)) (v : Value) : Prop := ∃ A n c B m k, v = .agg #[.slice A n c, .slice B m k] ∧ Fr w L A n c (cl1 r) ∧ Fr w L B m k (cl2 r)
theorem AggOk.keep {w w' : World} {L : Nat} {r : Option (List UInt8 × List UInt8)} {v : Value} (h : AggOk w L r v) (hb : Below w.heap.size w w') : AggOk w' L r v := by
 obtain ⟨A, n, c, B, m, k, e, h1, h2⟩ := h
 exact ⟨A, n, c, B, m, k, e, h1.keep hb, h2.keep hb⟩
def Free.kG (L : Nat) (r : Option (List UInt8 × List UInt8)) : Free.SV := ⟨fun v w => ∃ v', v = v' ∧ AggOk w L r v', fun v w w' ⟨v', h1, h2⟩ g => ⟨v', h1, h2.keep g⟩⟩
def Free.kR (L : Nat) (r : Option (List UInt8 × List UInt8)) : Free.SV := ⟨fun v w => ∃ v', v = v' ∧ ResOk w L r v', fun v w w' ⟨v', h1, h2⟩ g => ⟨v', h1, h2.keep g⟩⟩
def gr8 (f : Nat → Piece) (n : Nat) : Bool := (List.range n).any (fun i => decide (300 < (f i).n)) || decide (25 < n)
theorem gr8_no {f : Nat → Piece} {n : Nat} (h : gr8 f n = false) : n ≤ 25 ∧ ∀ i, i < n → (f i).n ≤ 300 := by
 unfold gr8 at h
 rw [Bool.or_eq_false_iff] at h
 refine ⟨by have := of_decide_eq_false h.2; omega, fun i hi => ?_⟩
 have := List.any_eq_false.1 h.1 i (List.mem_range.2 hi)
 rw [decide_eq_true_eq] at this
 omega
def fairB (i : Int) (n : Nat) (p : List (List UInt8)) : Bool := decide (0 ≤ i) && (decide (i < (n : Int)) && (Tree.all32 p && decide (p.length = (Tree.sides i.toNat n).length)))
end Go.Proofs.YteoledjllpgcbaaDoor
