/- MClashB: several texts of this claim in one file. No statement of the seat is proved here. -/
import Derived.Test.YteoledjllpgcbaaGreatDoorMClashA
namespace Go.Proofs.YteoledjllpgcbaaGreatDoor
set_option maxRecDepth 100000
set_option maxHeartbeats 64000000
set_option linter.unusedVariables false
open Go.RowKit
theorem cleaf_range (A : Option Addr) (nl cl : Nat) (i : Int) (v2 v3 : Value) (w : World) (hc : nl ≤ cl) (hm : cl ≤ maxLen) (hbad : i < 0 ∨ (nl : Int) ≤ i) :
  Calls Tryz.prog 57 #[.slice A nl cl, .int .i64 i, v2, v3] w (ResPost w.heap.size none w) := by
 rw [maxLen_eq] at hm
 have hrow := row_new w #[.slice none 0 0, .slice none 0 0] 52
 have HB0 := Lib.hid (show Below w.heap.size w (w.alloc (.cells #[.slice none 0 0, .slice none 0 0] 52)) from (Below.refl _ w).alloc (Nat.le_refl _) _)
 have x0 := hrow.cellQ 0 _ rfl
 have x1 := hrow.cellQ 1 _ rfl
 have f0 := hrow.frozen 0
 have f1 := hrow.frozen 1
 have HROW := Lib.hid (show ∀ u v, Row (setFrom w.heap.size (w.alloc (.cells #[.slice none 0 0, .slice none 0 0] 52)) 0 [u, v]) w.heap.size #[u, v] 52 from fun u v => hrow.all [u, v] rfl)
 clear hrow
 by_cases h0 : i < 0
 ·
  clear hbad
  go_enter Tryz.func57, Tryz.ntmps57
  go_wp2
  refine bodyPost_ret (v := .tuple #[.agg #[.slice none 0 0, .slice none 0 0], .bool false]) (by simp [results, Tryz.results57, go_sem, x0, x1]) rfl ?_
  exact ⟨none, 0, 0, none, 0, 0, rfl, Fr.nil _ _, Fr.nil _ _, HB0.out⟩
 ·
  have h1 : (nl : Int) ≤ i := by omega
  clear hbad
  go_enter Tryz.func57, Tryz.ntmps57
  go_wp2
  refine bodyPost_ret (v := .tuple #[.agg #[.slice none 0 0, .slice none 0 0], .bool false]) (by simp [results, Tryz.results57, go_sem, x0, x1]) rfl ?_
  exact ⟨none, 0, 0, none, 0, 0, rfl, Fr.nil _ _, Fr.nil _ _, HB0.out⟩
theorem cleaf_proof (Al : Option Addr) (nl cl : Nat) (i : Nat) (Ax : Option Addr) (nx cx : Nat) (leaf : List UInt8) (Ap : Option Addr) (np cp : Nat) (p : List (List UInt8)) (w : World) (hc : nl ≤ cl) (hm : cl ≤ maxLen) (hn : nl ≤ 300)
  (hi : i < nl) (hx : Bs w Ax nx cx leaf) (hx2 : nx ≤ 1000) (hp : Ss w Ap np cp p) (hwf : ∀ s ∈ p, s.length ≤ maxLen) (hbad : ¬ np = (Tree.sides i nl).length ∨ Tree.all32 p = false) (ht : Tabs w) :
  Calls Tryz.prog 57 #[.slice Al nl cl, .int .i64 (i : Int), .slice Ax nx cx, .slice Ap np cp] w (ResPost w.heap.size none w) := by
 rw [maxLen_eq] at hm
 have HB0 := Lib.hid (show Below w.heap.size w (w.alloc (.cells #[.slice none 0 0, .slice none 0 0] 52)) from (Below.refl _ w).alloc (Nat.le_refl _) _)
 have HROW0 := Lib.hid (row_new w #[.slice none 0 0, .slice none 0 0] 52)
 obtain ⟨d0, hd0⟩ : ∃ d, seal_ 0 leaf = d := ⟨_, rfl⟩
 have hd32 : d0.length = 32 := by rw [← hd0]; exact seal_len _ _
 have CY := Lib.hid (fun (W : World) (hW : Below w.heap.size w W) => climb_proof d0 i nl Ap np cp p W hd32 hi (by omega) (hp.keep hW) hwf hbad)
 have cl1 := fun (W : World) (hW : Below w.heap.size w W) => leaf_any Ax nx cx leaf W (hx.keep hW).rd hx.len hx.cap hx.max (by omega) (ht.below hW)
 unfold SealPost at cl1
 rw [hd0] at cl1
 have CLL := Lib.hid cl1
 have g1 : ¬ (i : Int) < 0 := by omega
 have g2 : ¬ (nl : Int) ≤ (i : Int) := by omega
 clear hp hwf hbad hx ht cl1 hd0
 go_enter Tryz.func57, Tryz.ntmps57
 go_wp2_with fail
 refine (CLL.out _ HB0.out).mono ?_
 rintro e w1 ⟨rfl, hb1⟩
 have HB1 := Lib.hid (bt HB0.out hb1)
 have HR1 := Lib.hid (HROW0.out.belowS hb1 (Nat.le_refl _))
 clear hb1
 go_wp2_with fail
 refine (CY.out _ HB1.out).mono ?_
 rintro e w2 ⟨rfl, hb2⟩
 have HB2 := Lib.hid (bt HB1.out hb2)
 have hrow := HR1.out.belowS hb2 (Nat.le_refl _)
 have x0 := hrow.cellQ 0 _ rfl
 have x1 := hrow.cellQ 1 _ rfl
 have f0 := hrow.frozen 0
 have f1 := hrow.frozen 1
 have HROW := Lib.hid (show ∀ u v, Row (setFrom w.heap.size w2 0 [u, v]) w.heap.size #[u, v] 52 from fun u v => hrow.all [u, v] rfl)
 clear hb2 hrow
 go_wp2
 generalize hwd : World.setCell (World.setCell w2 _ _) _ _ = wd
 have hsf : setFrom w.heap.size w2 0 [.slice none 0 0, .slice none 0 0] = wd := by rw [← hwd]; rfl
 have r0 : wd.cell? ⟨w.heap.size, 0, none⟩ = some (.slice none 0 0) := by rw [← hsf]; exact (HROW.out _ _).cellQ 0 _ rfl
 have r1 : wd.cell? ⟨w.heap.size, 1, none⟩ = some (.slice none 0 0) := by rw [← hsf]; exact (HROW.out _ _).cellQ 1 _ rfl
 refine bodyPost_ret (v := .tuple #[.agg #[.slice none 0 0, .slice none 0 0], .bool false]) (by simp [results, Tryz.results57, go_sem, r0, r1]) rfl ?_
 rw [← hsf]
 exact ⟨none, 0, 0, none, 0, 0, rfl, Fr.nil _ _, Fr.nil _ _, below_setFrom (Nat.le_refl _) _ 0 HB2.out⟩
theorem rbetw_any (L : Nat) (A : Option Addr) (n c : Nat) (B : Option Addr) (m k : Nat) (a b : List UInt8) (w : World) (hL : L ≤ w.heap.size) (hA : Fr w L A n c a) (hn : n ≤ 1000000) (hB : Fr w L B m k b) (hn2 : m ≤ 1000000) :
  Calls Tryz.prog 60 #[.slice A n c, .slice B m k] w (ResPost L (Cl.btw a b) w) := by
 have HB0 := Lib.hid (show Below w.heap.size w (w.alloc (.cells #[.slice none 0 0, .slice none 0 0] 55)) from (Below.refl _ w).alloc (Nat.le_refl _) _)
 have HROW0 := Lib.hid (row_new w #[.slice none 0 0, .slice none 0 0] 55)
 have CC := Lib.hid (fun (W : World) (hW : Below w.heap.size w W) => rclash_any A n c B m k a b W (hA.bs.keep hW).rd hA.len hA.cap hA.max hn (hB.bs.keep hW).rd hB.len hB.cap hB.max hn2)
 have HFA := Lib.hid hA
 have HFB := Lib.hid hB
 obtain ⟨q, hq⟩ : ∃ q, clashB a b = q := ⟨_, rfl⟩
 rw [hq] at CC
 have hbt : Cl.btw a b = if q = true then some (a, b) else none := by unfold Cl.btw; rw [hq]
 have HBT := Lib.hid hbt
 clear hA hB hq hbt
 go_enter Tryz.func60, Tryz.ntmps60
 go_wp2_with fail
 refine (CC.out _ HB0.out).mono ?_
 rintro e w2 ⟨rfl, hb2⟩
 have HB2 := Lib.hid (bt HB0.out hb2)
 have hrow := HROW0.out.belowS hb2 (Nat.le_refl _)
 have x0 := hrow.cellQ 0 _ rfl
 have x1 := hrow.cellQ 1 _ rfl
 have f0 := hrow.frozen 0
 have f1 := hrow.frozen 1
 have HROW := Lib.hid (show ∀ u v, Row (setFrom w.heap.size w2 0 [u, v]) w.heap.size #[u, v] 55 from fun u v => hrow.all [u, v] rfl)
 clear hb2 hrow
 cases q with
 | true =>
  go_wp2
  generalize hwd : World.setCell (World.setCell w2 _ _) _ _ = wd
  have hsf : setFrom w.heap.size w2 0 [.slice A n c, .slice B m k] = wd := by rw [← hwd]; rfl
  have r0 : wd.cell? ⟨w.heap.size, 0, none⟩ = some (.slice A n c) := by rw [← hsf]; exact (HROW.out _ _).cellQ 0 _ rfl
  have r1 : wd.cell? ⟨w.heap.size, 1, none⟩ = some (.slice B m k) := by rw [← hsf]; exact (HROW.out _ _).cellQ 1 _ rfl
  refine bodyPost_ret (v := .tuple #[.agg #[.slice A n c, .slice B m k], .bool true]) (by simp [results, Tryz.results60, go_sem, r0, r1]) rfl ?_
  rw [HBT.out, if_pos trivial, ← hsf]
  exact ⟨A, n, c, B, m, k, rfl, (HFA.out.keep (below_setFrom (Nat.le_refl _) _ 0 HB2.out)), (HFB.out.keep (below_setFrom (Nat.le_refl _) _ 0 HB2.out)), below_setFrom (Nat.le_refl _) _ 0 HB2.out⟩
 | false =>
  go_wp2
  generalize hwd : World.setCell (World.setCell w2 _ _) _ _ = wd
  have hsf : setFrom w.heap.size w2 0 [.slice none 0 0, .slice none 0 0] = wd := by rw [← hwd]; rfl
  have r0 : wd.cell? ⟨w.heap.size, 0, none⟩ = some (.slice none 0 0) := by rw [← hsf]; exact (HROW.out _ _).cellQ 0 _ rfl
  have r1 : wd.cell? ⟨w.heap.size, 1, none⟩ = some (.slice none 0 0) := by rw [← hsf]; exact (HROW.out _ _).cellQ 1 _ rfl
  refine bodyPost_ret (v := .tuple #[.agg #[.slice none 0 0, .slice none 0 0], .bool false]) (by simp [results, Tryz.results60, go_sem, r0, r1]) rfl ?_
  rw [HBT.out, if_neg (by decide)]
  rw [← hsf]
  exact ⟨none, 0, 0, none, 0, 0, rfl, Fr.nil _ _, Fr.nil _ _, below_setFrom (Nat.le_refl _) _ 0 HB2.out⟩
theorem rows_rd {w : World} {A : Option Addr} {n : Nat} {f : Nat → Piece} (h : RowsAt w A n f) : Rd w w.heap.size A ((List.range n).map fun i => pv (f i)) := fun hn => by
 have h0 : 0 < n := by
  rcases Nat.eq_zero_or_pos n with e | e
  · subst e; exact absurd rfl hn
  · exact e
 obtain ⟨b, off, e, hlt, hc⟩ := h h0
 refine ⟨b, off, e, hlt, fun k v hv => ?_⟩
 rw [List.getElem?_map] at hv
 by_cases hk : k < n
 ·
  rw [List.getElem?_range hk] at hv
  injection hv with hv
  rw [← hv]
  exact (hc k hk).1
 · rw [List.getElem?_eq_none (by rw [List.length_range]; omega)] at hv; cases hv
theorem rows_pc {w : World} {A : Option Addr} {n : Nat} {f : Nat → Piece} (h : RowsAt w A n f) {i : Nat} (hi : i < n) : PieceAt w (f i) := by
 obtain ⟨b, off, e, hlt, hc⟩ := h (by omega)
 exact (hc i hi).2
theorem rd_rows {w : World} {A : Option Addr} {n : Nat} {f : Nat → Piece} {xs : List Value} (h : Rd w w.heap.size A xs) (hx : ∀ i, i < n → xs[i]? = some (pv (f i))) (hp : ∀ i, i < n → PieceAt w (f i)) : RowsAt w A n f := fun hn => by
 obtain ⟨b, off, e, hlt, hc⟩ := h (by intro e; have := hx 0 hn; rw [e] at this; simp at this)
 exact ⟨b, off, e, hlt, fun i hi => ⟨hc i _ (hx i hi), hp i hi⟩⟩
section
variable {ops : Array Oper} {rest : List Oper} {o : Oper} {a : Act} {Q : Exit → Act → World → Prop} {w : World}
theorem wl_cutR_hi (hgd : o.guard = none) (x hi : Operand) (ho : o.op = .slice 66 x none (some hi) none) {A : Option Addr} {n c : Nat} {f : Nat → Piece} (hx : a.eval x = .slice A n c) (h1 : RowsAt w A n f) (hc : n ≤ c) (k : Nat) (hhi : a.eval hi = .int .i64 (k : Int)) (hk : k ≤ n)
  (h : ∀ A', RowsAt w A' k f → wpList Tryz.prog ops Q rest (a.put o.dst (.slice A' k c)) w) : wpList Tryz.prog ops Q (o :: rest) a w :=
 wl_cut_hi hgd 66 x hi ho 28 (by kernel_rfl) (by kernel_rfl) A n c hx .i64 (k : Int) hhi (by omega) (by omega) hc _ _ (rows_rd h1) fun A' hr => by
  rw [Int.toNat_natCast] at hr ⊢
  exact h A' (rd_rows hr (fun i hi => by rw [List.getElem?_take_of_lt hi, List.getElem?_map, List.getElem?_range (by omega)]; rfl) (fun i hi => rows_pc h1 (by omega)))
theorem wl_cutR_lo (hgd : o.guard = none) (x lo : Operand) (ho : o.op = .slice 66 x (some lo) none none) {A : Option Addr} {n c : Nat} {f : Nat → Piece} (hx : a.eval x = .slice A n c) (h1 : RowsAt w A n f) (hc : n ≤ c) (k : Nat) (hlo : a.eval lo = .int .i64 (k : Int)) (hk : k ≤ n)
  (h : ∀ A', RowsAt w A' (n - k) (fun i => f (k + i)) → wpList Tryz.prog ops Q rest (a.put o.dst (.slice A' (n - k) (c - k))) w) : wpList Tryz.prog ops Q (o :: rest) a w :=
 wl_cut_lo hgd 66 x lo ho 28 (by kernel_rfl) (by kernel_rfl) A n c hx .i64 (k : Int) hlo (by omega) (by omega) hc _ _ (rows_rd h1) (by simp) fun A' hr => by
  rw [Int.toNat_natCast] at hr ⊢
  exact h A' (rd_rows hr (fun i hi => by rw [List.getElem?_drop, List.getElem?_map, List.getElem?_range (by omega)]; rfl) (fun i hi => rows_pc h1 (by omega)))
end
theorem rleaves_any (A : Option Addr) (n c : Nat) (f : Nat → Piece) (w : World) (hr : RowsAt w A n f) (hc : n ≤ c) (hm : c ≤ maxLen) (hn : n ≤ 1000000) (hl : ∀ i, i < n → (f i).n ≤ 1000000) :
  Calls Tryz.prog 41 #[.slice A n c] w (OwnSPost w.heap.size (tleaves f n) w) := by
 rw [maxLen_eq] at hm
 have HR := Lib.hid hr
 have HL := Lib.hid hl
 clear hr hl
 go_enter Tryz.func41, Tryz.ntmps41
 go_wp2
 go_loopw [3, 4] (fun v i wr => ∃ (k : Nat) (A2 : Option Addr) (n2 c2 : Nat), k ≤ n ∧ i = .int .i64 k ∧ v = .slice A2 n2 c2 ∧ n2 ≤ k ∧ OwnS wr w.heap.size A2 n2 c2 (tleaves f k) ∧ Below w.heap.size w wr) (fun _ i _ => n - (intOf i).toNat)
 case atStart => exact ⟨0, none, 0, 0, by omega, rfl, rfl, by omega, OwnS.nil _ _, Below.refl _ _⟩
 case round =>
  obtain ⟨k, A2, n2, c2, hk, rfl, rfl, hnk, hown, hbel⟩ := hrel
  by_cases hlt : k < n
  ·
   obtain ⟨b, off, rfl, hb, hrows⟩ := HR.out (by omega)
   obtain ⟨hcell, hpc⟩ := hrows k hlt
   have hxn := HL.out k hlt
   have HE := Lib.hid (tleaves_succ f k)
   obtain ⟨x, hx⟩ : ∃ x, f k = x := ⟨_, rfl⟩
   rw [hx] at hcell hpc hxn HE
   have HP := Lib.hid hpc
   have x0 := (hbel.cell (p := ⟨b, off + k, none⟩) hb).trans hcell
   clear hrows hcell hpc hx
   go_wp2_with fail
   refine (rleaf_any x.a x.n x.c x.l wr ((HP.out.rd.below' hbel (Nat.le_refl _)).more hbel.size) HP.out.len HP.out.cap HP.out.max hxn).mono ?_
   rintro e w3 ⟨rfl, hb3⟩
   have hown3 := hown.keep hb3
   have hbel3 := bt hbel hb3
   go_wp2_with (at_builtin; refine wl_appS1 rfl (.tmp 11) (.tmp 17) rfl rfl hown3 rfl (seal_ 0 x.l) (by omega) hbel3.size ?_; intro A4 n4 c4 w4 ho4 hb4)
   go_roundw
   case rel => exact ⟨k + 1, A4, n4, c4, by omega, by go_num, rfl, by rw [← ho4.len, List.length_append, hown.len, List.length_singleton]; omega, by rw [HE.out]; exact ho4, hbel3.trans hb4⟩
   case measure => simp [intOf]; omega
  ·
   obtain rfl : k = n := by omega
   go_wp2
   go_ret
   exact ⟨A2, n2, c2, rfl, hown, hbel⟩
theorem raws_take (f : Nat → Piece) (n k : Nat) (h : k ≤ n) : (raws f n).take k = raws f k := by
 unfold raws
 rw [← List.map_take, List.take_range, Nat.min_eq_left h]
theorem raws_drop (f : Nat → Piece) (n k : Nat) : (raws f n).drop k = raws (fun j => f (k + j)) (n - k) := by
 apply List.ext_getElem?
 intro i
 unfold raws
 rw [List.getElem?_drop, List.getElem?_map, List.getElem?_map]
 by_cases h : i < n - k
 · rw [List.getElem?_range h, List.getElem?_range (by omega)]; rfl
 · rw [List.getElem?_eq_none (by rw [List.length_range]; omega), List.getElem?_eq_none (by rw [List.length_range]; omega)]; rfl
theorem topB_le {l : List (List UInt8)} (h : ∀ s ∈ l, s.length = 32) : (Cl.topB l).length ≤ 1000 := by
 unfold Cl.topB
 rw [List.length_cons, List.length_append, troot_len (all_take h _), troot_len (all_drop h _)]
 omega
def ResOk (w : World) (L : Nat) (r : Option (List UInt8 × List UInt8)) (v : Value) : Prop := ∃ A n c B m k, v = .tuple #[.agg #[.slice A n c, .slice B m k], .bool r.isSome] ∧ Fr w L A n c (cl1 r) ∧ Fr w L B m k (cl2 r)
theorem ResOk.keep {w w' : World} {L : Nat} {r : Option (List UInt8 × List UInt8)} {v : Value} (h : ResOk w L r v) (hb : Below w.heap.size w w') : ResOk w' L r v := by
 obtain ⟨A, n, c, B, m, k, e, h1, h2⟩ := h
 exact ⟨A, n, c, B, m, k, e, h1.keep hb, h2.keep hb⟩
def AggOk (w : World) (L : Nat) (r : Option (List UInt8 × List UInt8)) (v : Value) : Prop := ∃ A n c B m k, v = .agg #[.slice A n c, .slice B m k] ∧ Fr w L A n c (cl1 r) ∧ Fr w L B m k (cl2 r)
theorem AggOk.keep {w w' : World} {L : Nat} {r : Option (List UInt8 × List UInt8)} {v : Value} (h : AggOk w L r v) (hb : Below w.heap.size w w') : AggOk w' L r v := by
 obtain ⟨A, n, c, B, m, k, e, h1, h2⟩ := h
 exact ⟨A, n, c, B, m, k, e, h1.keep hb, h2.keep hb⟩
def Free.kG (L : Nat) (r : Option (List UInt8 × List UInt8)) : Free.SV := ⟨fun v w => ∃ v', v = v' ∧ AggOk w L r v', fun v w w' ⟨v', h1, h2⟩ g => ⟨v', h1, h2.keep g⟩⟩
def Free.kR (L : Nat) (r : Option (List UInt8 × List UInt8)) : Free.SV := ⟨fun v w => ∃ v', v = v' ∧ ResOk w L r v', fun v w w' ⟨v', h1, h2⟩ g => ⟨v', h1, h2.keep g⟩⟩
theorem rleaf1_any (Al : Option Addr) (cl : Nat) (f : Nat → Piece) (Ax : Option Addr) (nx cx : Nat) (leaf : List UInt8) (v1 v3 : Value) (p : List (List UInt8)) (w : World) (hrows : RowsAt w Al 1 f) (hc : 1 ≤ cl) (hm : cl ≤ maxLen) (hsm : (f 0).n ≤ 1000)
  (hx : Bs w Ax nx cx leaf) (hx2 : nx ≤ 1000) :
  Calls Tryz.prog 59 #[.slice Al 1 cl, v1, .slice Ax nx cx, v3] w (ResPost w.heap.size (Cl.lf leaf [] (raws f 1) p) w) := by
 rw [maxLen_eq] at hm
 obtain ⟨li, hli⟩ : ∃ q, f 0 = q := ⟨_, rfl⟩
 have HE := Lib.hid (show Cl.lf leaf [] (raws f 1) p = Cl.btw (0 :: leaf) (0 :: li.l) by rw [← hli]; rfl)
 rw [hli] at hsm
 obtain ⟨gl, ol, rfl, hgl, hcell⟩ := hrows (by omega)
 have hpc := (hcell 0 (by omega)).2
 have hcc := (hcell 0 (by omega)).1
 rw [hli] at hpc hcc
 have HB0 := Lib.hid (show Below w.heap.size w (w.alloc (.cells #[.slice none 0 0, .slice none 0 0] 55)) from (Below.refl _ w).alloc (Nat.le_refl _) _)
 have HROW0 := Lib.hid (row_new w #[.slice none 0 0, .slice none 0 0] 55)
 have hlt0 : w.heap.size < (w.alloc (.cells #[.slice none 0 0, .slice none 0 0] 55)).heap.size := by unfold World.alloc; simp
 obtain ⟨w1, hw1⟩ : ∃ w1, (w.alloc (.cells #[.slice none 0 0, .slice none 0 0] 55)) = w1 := ⟨_, rfl⟩
 have HW1 := Lib.hid hw1
 rw [hw1] at HB0 HROW0 hlt0
 have HLT := Lib.hid hlt0
 have HLN := Lib.hid (show (0 :: leaf).length ≤ 1000000 ∧ (0 :: li.l).length ≤ 1000000 by rw [List.length_cons, List.length_cons, hx.len, hpc.len]; omega)
 have QL1 := Lib.hid (show ∀ W, Below w1.heap.size w1 W → Calls Tryz.prog 61 #[.int .i64 0, .slice Ax nx cx] W (Ret8 W.heap.size (0 :: leaf) W) from fun W hW => (rbytes_any 0 Ax nx cx leaf W (hx.keep (bt HB0.out hW)).rd hx.len hx.cap hx.max (by omega)).mono fun e w2 h => h.ret8)
 have QL2 := Lib.hid (show ∀ W, Below w1.heap.size w1 W → Calls Tryz.prog 61 #[.int .i64 0, .slice li.a li.n li.c] W (Ret8 W.heap.size (0 :: li.l) W) from fun W hW => (rbytes_any 0 li.a li.n li.c li.l W (Bs.keep ⟨hpc.rd, hpc.len, hpc.cap, hpc.max⟩ (bt HB0.out hW)).rd hpc.len hpc.cap hpc.max (by omega)).mono fun e w2 h => h.ret8)
 unfold Ret8 at QL1 QL2
 have HLC := Lib.hid (show ∀ W, Below w1.heap.size w1 W → W.cell? ⟨gl, ol, none⟩ = some (.slice li.a li.n li.c) from fun W hW => ((bt HB0.out hW).cell (p := ⟨gl, ol, none⟩) hgl).trans hcc)
 clear hrows hcell hpc hcc hli hx hw1 hlt0 hm hsm
 go_enter Tryz.func59, Tryz.ntmps59
 go_wp2_with fail
 rw [HW1.out]
 refine Free.wp_free_l 9 (fun W => Below w1.heap.size w1 W) [Free.kc (.slice Ax nx cx), Free.kB (w1.heap.size) (0 :: leaf), Free.kc (.slice (some ⟨gl, ol, none⟩) 1 cl), Free.kc (.pointer (some ⟨gl, ol, none⟩)), Free.kc (.slice li.a li.n li.c), Free.kB (w1.heap.size) (0 :: li.l), Free.kR (w1.heap.size) (Cl.btw (0 :: leaf) (0 :: li.l)), Free.kG (w1.heap.size) (Cl.btw (0 :: leaf) (0 :: li.l)), Free.kc (.bool (Cl.btw (0 :: leaf) (0 :: li.l)).isSome)] (by kernel_rfl) (by kernel_rfl) (by decide) (Below.refl _ _).drew (fun w w' h g => bt h g) ?_ ?_
 ·
  iterate 9 refine Free.forall_succ ?_ ?_
  all_goals first | exact Free.forall_zero | (refine Free.op fun vals wq hC hd => ?_) | skip
  · exact Free.dm
  · exact Free.d_call Tryz.func61 (by kernel_rfl) (by kernel_rfl) rfl rfl (Free.arg2 (show _ = (Value.int .i64 0) from rfl) (Free.tr 0 hd)) ((QL1.out wq hC).mono fun e w2 h => (by obtain ⟨A1, n1, c1, he, ho, hb⟩ := h; exact ⟨_, he, ⟨A1, n1, c1, rfl, ho.base hC.size⟩, hb⟩))
  · exact Free.dm
  · exact Free.d_indexAddr rfl (Free.tr 2 hd) (show _ = (Value.int .i64 0) from rfl) (run_idx 66 Tryz.underlying66 (by kernel_rfl) gl ol 1 cl 0 _ (by omega) (by omega)) rfl
  · exact Free.d_load rfl (Free.tr 3 hd) (by have hcc := HLC.out wq hC; go_simp) rfl
  · exact Free.d_call Tryz.func61 (by kernel_rfl) (by kernel_rfl) rfl rfl (Free.arg2 (show _ = (Value.int .i64 0) from rfl) (Free.tr 4 hd)) ((QL2.out wq hC).mono fun e w2 h => (by obtain ⟨A1, n1, c1, he, ho, hb⟩ := h; exact ⟨_, he, ⟨A1, n1, c1, rfl, ho.base hC.size⟩, hb⟩))
  · obtain ⟨A1, n1, k1, e1, ow1⟩ := hd 1 (by kernel_rfl); obtain ⟨A5, n5, k5, e5, ow5⟩ := hd 5 (by kernel_rfl); exact Free.d_call Tryz.func60 (by kernel_rfl) (by kernel_rfl) rfl rfl (Free.arg2 (Eq.trans (b := vals 1) (by kernel_rfl) e1) (Eq.trans (b := vals 5) (by kernel_rfl) e5)) ((rbetw_any w1.heap.size A1 n1 k1 A5 n5 k5 (0 :: leaf) (0 :: li.l) wq hC.size (Fr.of8 ow1) (by rw [← (Fr.of8 ow1).len]; exact HLN.out.1) (Fr.of8 ow5) (by rw [← (Fr.of8 ow5).len]; exact HLN.out.2)).mono fun e w2 h => (by obtain ⟨A7, n7, c7, B7, m7, k7, he, h1, h2, hb⟩ := h; exact ⟨_, he, ⟨_, rfl, ⟨A7, n7, c7, B7, m7, k7, rfl, h1, h2⟩⟩, hb⟩))
  · obtain ⟨v6, e6, pd6⟩ := hd 6 (by kernel_rfl); exact (by obtain ⟨A7, n7, c7, B7, m7, k7, he7, h1, h2⟩ := pd6; exact Free.d_extract rfl (Eq.trans (Eq.trans (b := vals 6) (by kernel_rfl) e6) he7) (by first | rfl | (go_simp; done)) ⟨_, rfl, ⟨A7, n7, c7, B7, m7, k7, rfl, h1, h2⟩⟩)
  · obtain ⟨v6, e6, pd6⟩ := hd 6 (by kernel_rfl); exact (by obtain ⟨A7, n7, c7, B7, m7, k7, he7, h1, h2⟩ := pd6; exact Free.d_extract rfl (Eq.trans (Eq.trans (b := vals 6) (by kernel_rfl) e6) he7) (by first | rfl | (go_simp; done)) rfl)
 ·
  intro vals wq hC hd
  refine Free.go hd ?_
  rintro _ rfl _ ⟨A1, n1, k1, rfl, ow1⟩ _ rfl _ rfl _ rfl _ ⟨A5, n5, k5, rfl, ow5⟩ v6 ⟨_, rfl, pd6⟩ v7 ⟨_, rfl, pd7⟩ _ rfl
  simp only [Free.All, Free.fl, Act.put, Free.sa, Free.s0, Free.s1]
  clear hd
  obtain ⟨A7, n7, c7, B7, m7, k7, rfl, hf1, hf2⟩ := pd7
  have HB4 := Lib.hid (bt HB0.out hC)
  have hres := Row.belowS HROW0.out hC (Nat.le_refl _)
  have x0 := hres.cellQ 0 _ rfl
  have x1 := hres.cellQ 1 _ rfl
  have f0 := hres.frozen 0
  have f1 := hres.frozen 1
  have HROW := Lib.hid (show ∀ u v, Row (setFrom w.heap.size wq 0 [u, v]) w.heap.size #[u, v] 55 from fun u v => hres.all [u, v] rfl)
  have HF := Lib.hid (And.intro hf1 hf2)
  clear hres hf1 hf2 hC ow1 ow5
  go_wp2
  generalize hwd : World.setCell (World.setCell wq _ _) _ _ = wd
  have hsf : setFrom w.heap.size wq 0 [.slice A7 n7 c7, .slice B7 m7 k7] = wd := by rw [← hwd]; rfl
  have r0 : wd.cell? ⟨w.heap.size, 0, none⟩ = some (.slice A7 n7 c7) := by rw [← hsf]; exact (HROW.out _ _).cellQ 0 _ rfl
  have r1 : wd.cell? ⟨w.heap.size, 1, none⟩ = some (.slice B7 m7 k7) := by rw [← hsf]; exact (HROW.out _ _).cellQ 1 _ rfl
  refine bodyPost_ret (v := .tuple #[.agg #[.slice A7 n7 c7, .slice B7 m7 k7], .bool (Cl.btw (0 :: leaf) (0 :: li.l)).isSome]) (by simp [results, Tryz.results59, go_sem, r0, r1]) rfl ?_
  rw [HE.out]
  exact ⟨A7, n7, c7, B7, m7, k7, rfl, by rw [← hsf]; exact (HF.out.1.set HLT.out _ 0).base (Nat.le_of_lt HLT.out), by rw [← hsf]; exact (HF.out.2.set HLT.out _ 0).base (Nat.le_of_lt HLT.out), by rw [← hsf]; exact below_setFrom (Nat.le_refl _) _ 0 HB4.out⟩
theorem rleaf8_any : ∀ (q : Nat) (Al : Option Addr) (nl cl : Nat) (f : Nat → Piece) (i : Nat) (Ax : Option Addr) (nx cx : Nat) (leaf : List UInt8) (Ap : Option Addr) (np cp : Nat) (p : List (List UInt8)) (w : World), nl ≤ q → RowsAt w Al nl f → nl ≤ cl → cl ≤ maxLen → nl ≤ 300 → (∀ i, i < nl → (f i).n ≤ 1000) →
  i < nl → Bs w Ax nx cx leaf → nx ≤ 1000 → Ss w Ap np cp p → (∀ s ∈ p, s.length = 32) → np = (Tree.sides i nl).length →
  Calls Tryz.prog 59 #[.slice Al nl cl, .int .i64 (i : Int), .slice Ax nx cx, .slice Ap np cp] w (ResPost w.heap.size (Cl.lf leaf (Tree.sides i nl) (raws f nl) p) w)
 | 0, Al, nl, cl, f, i, Ax, nx, cx, leaf, Ap, np, cp, p, w, hq, hrows, hc, hm, hn, hsm, hi, hx, hx2, hp, h32, hpl => by omega
 | q + 1, Al, nl, cl, f, i, Ax, nx, cx, leaf, Ap, np, cp, p, w, hq, hrows, hc, hm, hn, hsm, hi, hx, hx2, hps, h32, hpl => by
  by_cases h1 : nl = 1
  ·
   subst h1
   rw [Tree.sides_small (by omega)]
   exact rleaf1_any Al cl f Ax nx cx leaf _ _ p w hrows hc hm (hsm 0 (by omega)) hx hx2
  have h2 : 2 ≤ nl := by omega
  have hb1 : ((nl : Int) == 1) = false := beq_eq_false_iff_ne.2 (by omega)
  rw [maxLen_eq] at hm
  have hlog := Tree.sides_log 10 i nl (by rw [show (2 : Nat) ^ 10 = 1024 by decide]; omega) hi
  rw [← hpl] at hlog
  obtain ⟨k0, hk⟩ : ∃ k0, Tree.sp nl = k0 := ⟨_, rfl⟩
  have kp := Tree.sp_pos h2
  have kl := Tree.sp_lt h2
  rw [hk] at kp kl
  have HSP := Lib.hid (show Tree.spz (nl : Int) = k0 by rw [Tree.spz_in h2 (by omega), hk])
  obtain ⟨m, hmm⟩ : ∃ m, np = m + 1 := by
   by_cases hlt : i < k0
   · rw [Tree.sides_left h2 (by rw [hk]; exact hlt), List.length_cons] at hpl; exact ⟨_, hpl⟩
   · rw [Tree.sides_right h2 (by rw [hk]; exact hlt), List.length_cons] at hpl; exact ⟨_, hpl⟩
  subst hmm
  have hplen := hps.len
  have hcp := hps.cap
  have hcm := hps.max
  rw [maxLen_eq] at hcm
  obtain ⟨b, off, rfl, hbb, hcell, x, hx0⟩ := hps.at (k := m) (by omega)
  have hp : p = p.take m ++ [x] := by
   have := List.take_add_one (l := p) (i := m)
   rw [hx0, List.take_of_length_le (by omega)] at this
   exact this
  have hxl : x.length = 32 := h32 x (List.mem_of_getElem? hx0)
  have HX := Lib.hid (show ∀ W, Below w.heap.size w W → W.cell? ⟨b, off + m, none⟩ = some (sv x) from fun W hW => (hW.cell (p := ⟨b, off + m, none⟩) hbb).trans (hcell m x hx0))
  obtain ⟨d0, hd0⟩ : ∃ d, seal_ 0 leaf = d := ⟨_, rfl⟩
  have hd32 : d0.length = 32 := by rw [← hd0]; exact seal_len _ _
  have HB0 := Lib.hid (show Below w.heap.size w (w.alloc (.cells #[.slice none 0 0, .slice none 0 0] 55)) from (Below.refl _ w).alloc (Nat.le_refl _) _)
  have HROW0 := Lib.hid (row_new w #[.slice none 0 0, .slice none 0 0] 55)
  have hlt0 : w.heap.size < (w.alloc (.cells #[.slice none 0 0, .slice none 0 0] 55)).heap.size := by unfold World.alloc; simp
  obtain ⟨w1, hw1⟩ : ∃ w1, (w.alloc (.cells #[.slice none 0 0, .slice none 0 0] 55)) = w1 := ⟨_, rfl⟩
  have HW1 := Lib.hid hw1
  rw [hw1] at HB0 HROW0 hlt0
  have HLT := Lib.hid hlt0
  have HSB := Lib.hid (show ∀ W, Below w.heap.size w W → Sb W W.heap.size (some ⟨b, off, none⟩) (m + 1) cp p from fun W hW => by have := hps.keep hW; exact ⟨this.rd, this.len, this.cap, this.max⟩)
  have HRW := Lib.hid (show ∀ W, Below w.heap.size w W → RowsAt W Al nl f from fun W hW => hrows.keep hW)
  have HCP := Lib.hid hc
  have CV := Lib.hid (show ∀ W, Below w.heap.size w W → Calls Tryz.prog 41 #[.slice Al nl cl] W (OwnSPost W.heap.size (tleaves f nl) W) from fun W hW => rleaves_any Al nl cl f W (hrows.keep hW) hc (by rw [maxLen_eq]; omega) (by omega) (fun i hi => by have := hsm i hi; omega))
  unfold OwnSPost at CV
  have clf := fun (W : World) (hW : Below w.heap.size w W) => rleaf_any Ax nx cx leaf W (hx.keep hW).rd hx.len hx.cap hx.max (by omega)
  unfold SealPost at clf
  rw [hd0] at clf
  have CLf := Lib.hid clf
  clear clf hw1 hlt0 hcell hx0 hrows hps
  have c1 : ((m + 1 : Nat) : Int) - 1 = (m : Int) := by omega
  have c2 : ((m : Int) + 1) - 1 = (m : Int) := by omega
  by_cases hlt : i < k0
  ·
   have hsd := Tree.sides_left (i := i) (n := nl) (by omega) (by rw [hk]; exact hlt)
   rw [hk] at hsd
   obtain ⟨S, hS⟩ : ∃ S, Tree.sides i k0 = S := ⟨_, rfl⟩
   rw [hS] at hsd
   have hSl : S.length = m := by rw [hsd, List.length_cons] at hpl; omega
   obtain ⟨Y, hY⟩ : ∃ Y, tclimb d0 i k0 (p.take m) = Y := ⟨_, rfl⟩
   have hYl : Y.length ≤ 100000 := by rw [← hY]; exact clb_len (by omega) _ _
   obtain ⟨T, hT⟩ : ∃ T, Cl.topB (tleaves f nl) = T := ⟨_, rfl⟩
   have hTl : T.length ≤ 1000 := by rw [← hT, raws_lv]; exact topB_le (Cl.lv_all _)
   obtain ⟨rst, hrst⟩ : ∃ r, Cl.lf leaf S (raws f k0) (p.take m) = r := ⟨_, rfl⟩
   obtain ⟨r0, hr0⟩ : ∃ r, Cl.btw (1 :: (Y ++ x)) T = r := ⟨_, rfl⟩
   have HE := Lib.hid (show Cl.lf leaf (Tree.sides i nl) (raws f nl) p = r0.or rst by
    have h1 := Cl.lf_snoc leaf false S (raws f nl) (p.take m) x
    rw [← hp, ← hsd, raws_len, hk, ← raws_lv, hT, hd0] at h1
    have h2 : Tree.clb tnd tnil d0 S (p.take m) = Y := by rw [← hY]; unfold tclimb; rw [hS]
    rw [h2] at h1
    have h3 : (raws f nl).take k0 = raws f k0 := raws_take f nl k0 (by omega)
    rw [h1, ← hr0, ← hrst, ← h3]
    rfl)
   have CY := Lib.hid (show ∀ (A' : Option Addr) (c' : Nat) (W : World), Ss W A' m c' (p.take m) → Calls Tryz.prog 52 #[sv d0, .int .i64 (i : Int), .int .i64 (k0 : Int), .slice A' m c'] W (StrPost Y W) from fun A' c' W g => by
    have hl : (p.take m).length = m := by rw [List.length_take]; omega
    have := rclimb_any _ d0 i k0 A' c' (p.take m) W (Nat.le_refl _) (by omega) (by omega) (by omega) (all_take h32 m) (by rw [hl, hS, hSl]) (by rw [hl]; exact g)
    rw [hl, hY] at this
    exact this)
   have CX := Lib.hid (fun (W : World) => xbytes_any Y x W (by omega) (by omega))
   have CB := Lib.hid (fun (L : Nat) (A : Option Addr) (n c : Nat) (B : Option Addr) (m' k' : Nat) (W : World) (hL : L ≤ W.heap.size) (hA : Fr W L A n c (1 :: (Y ++ x))) (hB : Fr W L B m' k' T) => by
    have := rbetw_any L A n c B m' k' (1 :: (Y ++ x)) T W hL hA (by rw [← hA.len, List.length_cons, List.length_append]; omega) hB (by rw [← hB.len]; omega)
    rw [hr0] at this
    exact this)
   have CI := Lib.hid (show ∀ (A' : Option Addr) (W : World) (A2 : Option Addr) (c2 : Nat), Below w.heap.size w W → RowsAt W A' k0 f → Ss W A2 m c2 (p.take m) → Calls Tryz.prog 59 #[.slice A' k0 cl, .int .i64 (i : Int), .slice Ax nx cx, .slice A2 m c2] W (ResPost W.heap.size rst W) from fun A' W A2 c2 hW g1 g2 => by
    have := rleaf8_any q A' k0 cl f i Ax nx cx leaf A2 m c2 (p.take m) W (by omega) g1 (by omega) (by rw [maxLen_eq]; omega) (by omega) (fun j hj => hsm _ (by omega)) (by omega) (hx.keep hW) hx2 g2 (all_take h32 m) (by rw [hS, hSl])
    rw [hS, hrst] at this
    exact this)
   have CT := Lib.hid (show ∀ (A' : Option Addr) (n' c' : Nat) (W : World), OwnS W w1.heap.size A' n' c' (tleaves f nl) → Calls Tryz.prog 108 #[.slice A' n' c'] W (Ret8 W.heap.size T W) from fun A' n' c' W g => by
    have h1 := rtop_any A' n' c' (tleaves f nl) W g.ss (by rw [raws_lv]; exact Cl.lv_all _) (by have := g.len; rw [raws_lv] at this; simp [Cl.lv, raws] at this; omega) (by have := g.len; rw [raws_lv] at this; simp [Cl.lv, raws] at this; omega)
    rw [hT] at h1
    exact h1)
   clear hsd hS hY hT hrst hr0 hp hx h32 hpl hsm hk hd0
   go_enter Tryz.func59, Tryz.ntmps59
   go_wp2_with fail
   rw [HW1.out]
   refine (rsplit_any (nl : Int) w1 (by omega) (by omega)).mono ?_
   rintro e wz ⟨rfl, rfl⟩
   rw [HSP.out]
   have z0 := HX.out w1 HB0.out
   go_wp2_with (refine wl_cutB_hi rfl (.tmp 40) (.tmp 43) rfl rfl (HSB.out w1 HB0.out) m (by go_num) (by omega) ?_; intro A2 h2; have H2 := Lib.hid h2; clear h2 z0)
   refine (CV.out w1 HB0.out).mono ?_
   rintro e w3 ⟨Ad, nd, cd, rfl, ho3, hb3⟩
   have HB3 := Lib.hid hb3
   have HO3 := Lib.hid ho3
   clear hb3 ho3
   go_wp2_with fail
   refine (CT.out Ad nd cd w3 HO3.out).mono ?_
   rintro e w4 ⟨At, nt, ct, rfl, ho4, hb4⟩
   have HO4 := Lib.hid (ho4.base HB3.out.size)
   have HB4 := Lib.hid (bt HB3.out hb4)
   clear hb4 ho4
   go_wp2_with fail
   refine (CLf.out w4 (bt HB0.out HB4.out)).mono ?_
   rintro e w5 ⟨rfl, hb5⟩
   have HO5 := Lib.hid (HO4.out.keep hb5)
   have HB5 := Lib.hid (bt HB4.out hb5)
   clear hb5
   go_wp2_with fail
   refine (CY.out A2 _ w5 (by have := H2.out.keep HB5.out; exact ⟨this.rd.more HB5.out.size, this.len, this.cap, this.max⟩)).mono ?_
   rintro e w6 ⟨rfl, hb6⟩
   have HO6 := Lib.hid (HO5.out.keep hb6)
   have HB6 := Lib.hid (bt HB5.out hb6)
   clear hb6
   go_wp2_with fail
   refine (CX.out w6).mono ?_
   rintro e w7 ⟨An, nn, cn, rfl, ho7, hb7⟩
   have HN7 := Lib.hid (ho7.base HB6.out.size)
   have HO7 := Lib.hid (HO6.out.keep hb7)
   have HB7 := Lib.hid (bt HB6.out hb7)
   clear hb7 ho7
   go_wp2_with fail
   refine (CB.out w1.heap.size An nn cn At nt ct w7 HB7.out.size (Fr.of8 HN7.out) (Fr.of8 HO7.out)).mono ?_
   rintro e w8 ⟨A7, n7, c7, B7, m7, k7, rfl, hf1, hf2, hb8⟩
   have HF := Lib.hid (And.intro hf1 hf2)
   have HB8 := Lib.hid (bt HB7.out hb8)
   clear hf1 hf2 hb8
   have hb9 : Below w8.heap.size w8 (w8.alloc (.cells #[.slice A7 n7 c7, .slice B7 m7 k7] 55)) := (Below.refl _ w8).alloc (Nat.le_refl _) _
   have HB9 := Lib.hid (bt HB8.out hb9)
   cases r0 with
   | some r =>
    have hres := Row.belowS HROW0.out HB9.out (Nat.le_refl _)
    have hbox := row_new w8 #[.slice A7 n7 c7, .slice B7 m7 k7] 55
    have x0 := hres.cellQ 0 _ rfl
    have x1 := hres.cellQ 1 _ rfl
    have f0 := hres.frozen 0
    have f1 := hres.frozen 1
    have y0 := hbox.cellQ 0 _ rfl
    have y1 := hbox.cellQ 1 _ rfl
    have HROW := Lib.hid (show ∀ u v, Row (setFrom w.heap.size (w8.alloc (.cells #[.slice A7 n7 c7, .slice B7 m7 k7] 55)) 0 [u, v]) w.heap.size #[u, v] 55 from fun u v => hres.all [u, v] rfl)
    have HF9 := Lib.hid (And.intro (HF.out.1.keep hb9) (HF.out.2.keep hb9))
    clear hres hbox hb9
    go_wp2
    generalize hwd : World.setCell (World.setCell (w8.alloc _) _ _) _ _ = wd
    have hsf : setFrom w.heap.size (w8.alloc (.cells #[.slice A7 n7 c7, .slice B7 m7 k7] 55)) 0 [.slice A7 n7 c7, .slice B7 m7 k7] = wd := by rw [← hwd]; rfl
    have r0 : wd.cell? ⟨w.heap.size, 0, none⟩ = some (.slice A7 n7 c7) := by rw [← hsf]; exact (HROW.out _ _).cellQ 0 _ rfl
    have r1 : wd.cell? ⟨w.heap.size, 1, none⟩ = some (.slice B7 m7 k7) := by rw [← hsf]; exact (HROW.out _ _).cellQ 1 _ rfl
    refine bodyPost_ret (v := .tuple #[.agg #[.slice A7 n7 c7, .slice B7 m7 k7], .bool true]) (by simp [results, Tryz.results59, go_sem, r0, r1]) rfl ?_
    rw [HE.out]
    exact ⟨A7, n7, c7, B7, m7, k7, rfl, by rw [← hsf]; exact (HF9.out.1.set HLT.out _ 0).base (Nat.le_of_lt HLT.out), by rw [← hsf]; exact (HF9.out.2.set HLT.out _ 0).base (Nat.le_of_lt HLT.out), by rw [← hsf]; exact below_setFrom (Nat.le_refl _) _ 0 (bt HB0.out HB9.out)⟩
   | none =>
    clear hb9
    go_wp2_with (refine wl_cutR_hi rfl (.tmp 67) (.tmp 68) rfl rfl (HRW.out _ (bt HB0.out HB9.out)) HCP.out k0 rfl (by omega) ?_; intro A9 h9; have H9 := Lib.hid h9; clear h9)
    refine (CI.out A9 _ A2 _ (bt HB0.out HB9.out) H9.out (by have := H2.out.keep HB9.out; exact ⟨this.rd.more HB9.out.size, this.len, this.cap, this.max⟩)).mono ?_
    rintro e w10 ⟨A11, n11, c11, B11, m11, k11, rfl, hf1, hf2, hb10⟩
    have HBX := Lib.hid (bt HB9.out hb10)
    have hres := Row.belowS HROW0.out HBX.out (Nat.le_refl _)
    have x0 := hres.cellQ 0 _ rfl
    have x1 := hres.cellQ 1 _ rfl
    have f0 := hres.frozen 0
    have f1 := hres.frozen 1
    have HROW := Lib.hid (show ∀ u v, Row (setFrom w.heap.size w10 0 [u, v]) w.heap.size #[u, v] 55 from fun u v => hres.all [u, v] rfl)
    have HF9 := Lib.hid (And.intro (hf1.base HB9.out.size) (hf2.base HB9.out.size))
    clear hres hf1 hf2 hb10
    go_wp2
    generalize hwd : World.setCell (World.setCell w10 _ _) _ _ = wd
    have hsf : setFrom w.heap.size w10 0 [.slice A11 n11 c11, .slice B11 m11 k11] = wd := by rw [← hwd]; rfl
    have r0 : wd.cell? ⟨w.heap.size, 0, none⟩ = some (.slice A11 n11 c11) := by rw [← hsf]; exact (HROW.out _ _).cellQ 0 _ rfl
    have r1 : wd.cell? ⟨w.heap.size, 1, none⟩ = some (.slice B11 m11 k11) := by rw [← hsf]; exact (HROW.out _ _).cellQ 1 _ rfl
    refine bodyPost_ret (v := .tuple #[.agg #[.slice A11 n11 c11, .slice B11 m11 k11], .bool rst.isSome]) (by simp [results, Tryz.results59, go_sem, r0, r1]) rfl ?_
    rw [HE.out]
    exact ⟨A11, n11, c11, B11, m11, k11, rfl, by rw [← hsf]; exact (HF9.out.1.set HLT.out _ 0).base (Nat.le_of_lt HLT.out), by rw [← hsf]; exact (HF9.out.2.set HLT.out _ 0).base (Nat.le_of_lt HLT.out), by rw [← hsf]; exact below_setFrom (Nat.le_refl _) _ 0 (bt HB0.out HBX.out)⟩
  ·
   have hsd := Tree.sides_right (i := i) (n := nl) (by omega) (by rw [hk]; exact hlt)
   rw [hk] at hsd
   obtain ⟨S, hS⟩ : ∃ S, Tree.sides (i - k0) (nl - k0) = S := ⟨_, rfl⟩
   rw [hS] at hsd
   have hSl : S.length = m := by rw [hsd, List.length_cons] at hpl; omega
   obtain ⟨Y, hY⟩ : ∃ Y, tclimb d0 (i - k0) (nl - k0) (p.take m) = Y := ⟨_, rfl⟩
   have hYl : Y.length ≤ 100000 := by rw [← hY]; exact clb_len (by omega) _ _
   obtain ⟨T, hT⟩ : ∃ T, Cl.topB (tleaves f nl) = T := ⟨_, rfl⟩
   have hTl : T.length ≤ 1000 := by rw [← hT, raws_lv]; exact topB_le (Cl.lv_all _)
   obtain ⟨rst, hrst⟩ : ∃ r, Cl.lf leaf S (raws (fun j => f (k0 + j)) (nl - k0)) (p.take m) = r := ⟨_, rfl⟩
   obtain ⟨r0, hr0⟩ : ∃ r, Cl.btw (1 :: (x ++ Y)) T = r := ⟨_, rfl⟩
   have HE := Lib.hid (show Cl.lf leaf (Tree.sides i nl) (raws f nl) p = r0.or rst by
    have h1 := Cl.lf_snoc leaf true S (raws f nl) (p.take m) x
    rw [← hp, ← hsd, raws_len, hk, ← raws_lv, hT, hd0] at h1
    have h2 : Tree.clb tnd tnil d0 S (p.take m) = Y := by rw [← hY]; unfold tclimb; rw [hS]
    rw [h2] at h1
    have h3 : (raws f nl).drop k0 = raws (fun j => f (k0 + j)) (nl - k0) := raws_drop f nl k0
    rw [h1, ← hr0, ← hrst, ← h3]
    rfl)
   have CY := Lib.hid (show ∀ (A' : Option Addr) (c' : Nat) (W : World), Ss W A' m c' (p.take m) → Calls Tryz.prog 52 #[sv d0, .int .i64 ((i : Int) - (k0 : Int)), .int .i64 ((nl : Int) - (k0 : Int)), .slice A' m c'] W (StrPost Y W) from fun A' c' W g => by
    rw [show ((i : Int) - (k0 : Int)) = ((i - k0 : Nat) : Int) by omega, show ((nl : Int) - (k0 : Int)) = ((nl - k0 : Nat) : Int) by omega]
    have hl : (p.take m).length = m := by rw [List.length_take]; omega
    have := rclimb_any _ d0 (i - k0) (nl - k0) A' c' (p.take m) W (Nat.le_refl _) (by omega) (by omega) (by omega) (all_take h32 m) (by rw [hl, hS, hSl]) (by rw [hl]; exact g)
    rw [hl, hY] at this
    exact this)
   have CX := Lib.hid (fun (W : World) => xbytes_any x Y W (by omega) (by omega))
   have CB := Lib.hid (fun (L : Nat) (A : Option Addr) (n c : Nat) (B : Option Addr) (m' k' : Nat) (W : World) (hL : L ≤ W.heap.size) (hA : Fr W L A n c (1 :: (x ++ Y))) (hB : Fr W L B m' k' T) => by
    have := rbetw_any L A n c B m' k' (1 :: (x ++ Y)) T W hL hA (by rw [← hA.len, List.length_cons, List.length_append]; omega) hB (by rw [← hB.len]; omega)
    rw [hr0] at this
    exact this)
   have CI := Lib.hid (show ∀ (A' : Option Addr) (W : World) (A2 : Option Addr) (c2 : Nat), Below w.heap.size w W → RowsAt W A' (nl - k0) (fun j => f (k0 + j)) → Ss W A2 m c2 (p.take m) → Calls Tryz.prog 59 #[.slice A' (nl - k0) (cl - k0), .int .i64 ((i : Int) - (k0 : Int)), .slice Ax nx cx, .slice A2 m c2] W (ResPost W.heap.size rst W) from fun A' W A2 c2 hW g1 g2 => by
    rw [show ((i : Int) - (k0 : Int)) = ((i - k0 : Nat) : Int) by omega]
    have := rleaf8_any q A' (nl - k0) (cl - k0) (fun j => f (k0 + j)) (i - k0) Ax nx cx leaf A2 m c2 (p.take m) W (by omega) g1 (by omega) (by rw [maxLen_eq]; omega) (by omega) (fun j hj => hsm _ (by omega)) (by omega) (hx.keep hW) hx2 g2 (all_take h32 m) (by rw [hS, hSl])
    rw [hS, hrst] at this
    exact this)
   have CT := Lib.hid (show ∀ (A' : Option Addr) (n' c' : Nat) (W : World), OwnS W w1.heap.size A' n' c' (tleaves f nl) → Calls Tryz.prog 108 #[.slice A' n' c'] W (Ret8 W.heap.size T W) from fun A' n' c' W g => by
    have h1 := rtop_any A' n' c' (tleaves f nl) W g.ss (by rw [raws_lv]; exact Cl.lv_all _) (by have := g.len; rw [raws_lv] at this; simp [Cl.lv, raws] at this; omega) (by have := g.len; rw [raws_lv] at this; simp [Cl.lv, raws] at this; omega)
    rw [hT] at h1
    exact h1)
   clear hsd hS hY hT hrst hr0 hp hx h32 hpl hsm hk hd0
   go_enter Tryz.func59, Tryz.ntmps59
   go_wp2_with fail
   rw [HW1.out]
   refine (rsplit_any (nl : Int) w1 (by omega) (by omega)).mono ?_
   rintro e wz ⟨rfl, rfl⟩
   rw [HSP.out]
   have z0 := HX.out w1 HB0.out
   go_wp2_with (refine wl_cutB_hi rfl (.tmp 40) (.tmp 43) rfl rfl (HSB.out w1 HB0.out) m (by go_num) (by omega) ?_; intro A2 h2; have H2 := Lib.hid h2; clear h2 z0)
   refine (CV.out w1 HB0.out).mono ?_
   rintro e w3 ⟨Ad, nd, cd, rfl, ho3, hb3⟩
   have HB3 := Lib.hid hb3
   have HO3 := Lib.hid ho3
   clear hb3 ho3
   go_wp2_with fail
   refine (CT.out Ad nd cd w3 HO3.out).mono ?_
   rintro e w4 ⟨At, nt, ct, rfl, ho4, hb4⟩
   have HO4 := Lib.hid (ho4.base HB3.out.size)
   have HB4 := Lib.hid (bt HB3.out hb4)
   clear hb4 ho4
   go_wp2_with fail
   refine (CLf.out w4 (bt HB0.out HB4.out)).mono ?_
   rintro e w5 ⟨rfl, hb5⟩
   have HO5 := Lib.hid (HO4.out.keep hb5)
   have HB5 := Lib.hid (bt HB4.out hb5)
   clear hb5
   go_wp2_with fail
   refine (CY.out A2 _ w5 (by have := H2.out.keep HB5.out; exact ⟨this.rd.more HB5.out.size, this.len, this.cap, this.max⟩)).mono ?_
   rintro e w6 ⟨rfl, hb6⟩
   have HO6 := Lib.hid (HO5.out.keep hb6)
   have HB6 := Lib.hid (bt HB5.out hb6)
   clear hb6
   go_wp2_with fail
   refine (CX.out w6).mono ?_
   rintro e w7 ⟨An, nn, cn, rfl, ho7, hb7⟩
   have HN7 := Lib.hid (ho7.base HB6.out.size)
   have HO7 := Lib.hid (HO6.out.keep hb7)
   have HB7 := Lib.hid (bt HB6.out hb7)
   clear hb7 ho7
   go_wp2_with fail
   refine (CB.out w1.heap.size An nn cn At nt ct w7 HB7.out.size (Fr.of8 HN7.out) (Fr.of8 HO7.out)).mono ?_
   rintro e w8 ⟨A7, n7, c7, B7, m7, k7, rfl, hf1, hf2, hb8⟩
   have HF := Lib.hid (And.intro hf1 hf2)
   have HB8 := Lib.hid (bt HB7.out hb8)
   clear hf1 hf2 hb8
   have hb9 : Below w8.heap.size w8 (w8.alloc (.cells #[.slice A7 n7 c7, .slice B7 m7 k7] 55)) := (Below.refl _ w8).alloc (Nat.le_refl _) _
   have HB9 := Lib.hid (bt HB8.out hb9)
   cases r0 with
   | some r =>
    have hres := Row.belowS HROW0.out HB9.out (Nat.le_refl _)
    have hbox := row_new w8 #[.slice A7 n7 c7, .slice B7 m7 k7] 55
    have x0 := hres.cellQ 0 _ rfl
    have x1 := hres.cellQ 1 _ rfl
    have f0 := hres.frozen 0
    have f1 := hres.frozen 1
    have y0 := hbox.cellQ 0 _ rfl
    have y1 := hbox.cellQ 1 _ rfl
    have HROW := Lib.hid (show ∀ u v, Row (setFrom w.heap.size (w8.alloc (.cells #[.slice A7 n7 c7, .slice B7 m7 k7] 55)) 0 [u, v]) w.heap.size #[u, v] 55 from fun u v => hres.all [u, v] rfl)
    have HF9 := Lib.hid (And.intro (HF.out.1.keep hb9) (HF.out.2.keep hb9))
    clear hres hbox hb9
    go_wp2
    generalize hwd : World.setCell (World.setCell (w8.alloc _) _ _) _ _ = wd
    have hsf : setFrom w.heap.size (w8.alloc (.cells #[.slice A7 n7 c7, .slice B7 m7 k7] 55)) 0 [.slice A7 n7 c7, .slice B7 m7 k7] = wd := by rw [← hwd]; rfl
    have r0 : wd.cell? ⟨w.heap.size, 0, none⟩ = some (.slice A7 n7 c7) := by rw [← hsf]; exact (HROW.out _ _).cellQ 0 _ rfl
    have r1 : wd.cell? ⟨w.heap.size, 1, none⟩ = some (.slice B7 m7 k7) := by rw [← hsf]; exact (HROW.out _ _).cellQ 1 _ rfl
    refine bodyPost_ret (v := .tuple #[.agg #[.slice A7 n7 c7, .slice B7 m7 k7], .bool true]) (by simp [results, Tryz.results59, go_sem, r0, r1]) rfl ?_
    rw [HE.out]
    exact ⟨A7, n7, c7, B7, m7, k7, rfl, by rw [← hsf]; exact (HF9.out.1.set HLT.out _ 0).base (Nat.le_of_lt HLT.out), by rw [← hsf]; exact (HF9.out.2.set HLT.out _ 0).base (Nat.le_of_lt HLT.out), by rw [← hsf]; exact below_setFrom (Nat.le_refl _) _ 0 (bt HB0.out HB9.out)⟩
   | none =>
    clear hb9
    go_wp2_with (refine wl_cutR_lo rfl (.tmp 95) (.tmp 96) rfl rfl (HRW.out _ (bt HB0.out HB9.out)) HCP.out k0 rfl (by omega) ?_; intro A9 h9; have H9 := Lib.hid h9; clear h9)
    refine (CI.out A9 _ A2 _ (bt HB0.out HB9.out) H9.out (by have := H2.out.keep HB9.out; exact ⟨this.rd.more HB9.out.size, this.len, this.cap, this.max⟩)).mono ?_
    rintro e w10 ⟨A11, n11, c11, B11, m11, k11, rfl, hf1, hf2, hb10⟩
    have HBX := Lib.hid (bt HB9.out hb10)
    have hres := Row.belowS HROW0.out HBX.out (Nat.le_refl _)
    have x0 := hres.cellQ 0 _ rfl
    have x1 := hres.cellQ 1 _ rfl
    have f0 := hres.frozen 0
    have f1 := hres.frozen 1
    have HROW := Lib.hid (show ∀ u v, Row (setFrom w.heap.size w10 0 [u, v]) w.heap.size #[u, v] 55 from fun u v => hres.all [u, v] rfl)
    have HF9 := Lib.hid (And.intro (hf1.base HB9.out.size) (hf2.base HB9.out.size))
    clear hres hf1 hf2 hb10
    go_wp2
    generalize hwd : World.setCell (World.setCell w10 _ _) _ _ = wd
    have hsf : setFrom w.heap.size w10 0 [.slice A11 n11 c11, .slice B11 m11 k11] = wd := by rw [← hwd]; rfl
    have r0 : wd.cell? ⟨w.heap.size, 0, none⟩ = some (.slice A11 n11 c11) := by rw [← hsf]; exact (HROW.out _ _).cellQ 0 _ rfl
    have r1 : wd.cell? ⟨w.heap.size, 1, none⟩ = some (.slice B11 m11 k11) := by rw [← hsf]; exact (HROW.out _ _).cellQ 1 _ rfl
    refine bodyPost_ret (v := .tuple #[.agg #[.slice A11 n11 c11, .slice B11 m11 k11], .bool rst.isSome]) (by simp [results, Tryz.results59, go_sem, r0, r1]) rfl ?_
    rw [HE.out]
    exact ⟨A11, n11, c11, B11, m11, k11, rfl, by rw [← hsf]; exact (HF9.out.1.set HLT.out _ 0).base (Nat.le_of_lt HLT.out), by rw [← hsf]; exact (HF9.out.2.set HLT.out _ 0).base (Nat.le_of_lt HLT.out), by rw [← hsf]; exact below_setFrom (Nat.le_refl _) _ 0 (bt HB0.out HBX.out)⟩
def fairB (i : Int) (n : Nat) (p : List (List UInt8)) : Bool := decide (0 ≤ i) && (decide (i < (n : Int)) && (Tree.all32 p && decide (p.length = (Tree.sides i.toNat n).length)))
end Go.Proofs.YteoledjllpgcbaaGreatDoor
