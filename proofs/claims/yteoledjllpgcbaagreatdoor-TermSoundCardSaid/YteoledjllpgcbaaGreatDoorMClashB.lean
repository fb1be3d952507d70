/- MClashB: several texts of this claim in one file. No statement of the seat is proved here. -/
import Derived.Test.YteoledjllpgcbaaGreatDoorMClashA
namespace Go.Proofs.YteoledjllpgcbaaGreatDoor
set_option maxRecDepth 100000
set_option maxHeartbeats 64000000
set_option linter.unusedVariables false
open Go.RowKit
theorem cleaf_range (A : Option Addr) (nl cl : Nat) (i : Int) (v2 v3 : Value) (w : World) (hc : nl ≤ cl) (hm : cl ≤ maxLen) (hbad : i < 0 ∨ (nl : Int) ≤ i) :
  Calls Tryz.prog 57 #[.slice A nl cl, .int .i64 i, v2, v3] w (ResPost w.heap.size none w) := by
 rw [maxLen_eq] at hm
 have hrow := row_new w #[.slice none 0 0, .slice none 0 0] 52
 have HB0 := Lib.hid (show Below w.heap.size w (w.alloc (.cells #[.slice none 0 0, .slice none 0 0] 52)) from (Below.refl _ w).alloc (Nat.le_refl _) _)
 have x0 := hrow.cellQ 0 _ rfl
 have x1 := hrow.cellQ 1 _ rfl
 have f0 := hrow.frozen 0
 have f1 := hrow.frozen 1
 have HROW := Lib.hid (show ∀ u v, Row (setFrom w.heap.size (w.alloc (.cells #[.slice none 0 0, .slice none 0 0] 52)) 0 [u, v]) w.heap.size #[u, v] 52 from fun u v => hrow.all [u, v] rfl)
 clear hrow
 by_cases h0 : i < 0
 ·
  clear hbad
  go_enter Tryz.func57, Tryz.ntmps57
  go_wp2
  refine bodyPost_ret (v := .tuple #[.agg #[.slice none 0 0, .slice none 0 0], .bool false]) (by simp [results, Tryz.results57, go_sem, x0, x1]) rfl ?_
  exact ⟨none, 0, 0, none, 0, 0, rfl, Fr.nil _ _, Fr.nil _ _, HB0.out⟩
 ·
  have h1 : (nl : Int) ≤ i := by omega
  clear hbad
  go_enter Tryz.func57, Tryz.ntmps57
  go_wp2
  refine bodyPost_ret (v := .tuple #[.agg #[.slice none 0 0, .slice none 0 0], .bool false]) (by simp [results, Tryz.results57, go_sem, x0, x1]) rfl ?_
  exact ⟨none, 0, 0, none, 0, 0, rfl, Fr.nil _ _, Fr.nil _ _, HB0.out⟩
theorem cleaf_proof (Al : Option Addr) (nl cl : Nat) (i : Nat) (Ax : Option Addr) (nx cx : Nat) (leaf : List UInt8) (Ap : Option Addr) (np cp : Nat) (p : List (List UInt8)) (w : World) (hc : nl ≤ cl) (hm : cl ≤ maxLen) (hn : nl ≤ 300)
  (hi : i < nl) (hx : Bs w Ax nx cx leaf) (hx2 : nx ≤ 1000) (hp : Ss w Ap np cp p) (hwf : ∀ s ∈ p, s.length ≤ maxLen) (hbad : ¬ np = (Tree.sides i nl).length ∨ Tree.all32 p = false) (ht : Tabs w) :
  Calls Tryz.prog 57 #[.slice Al nl cl, .int .i64 (i : Int), .slice Ax nx cx, .slice Ap np cp] w (ResPost w.heap.size none w) := by
 rw [maxLen_eq] at hm
 have HB0 := Lib.hid (show Below w.heap.size w (w.alloc (.cells #[.slice none 0 0, .slice none 0 0] 52)) from (Below.refl _ w).alloc (Nat.le_refl _) _)
 have HROW0 := Lib.hid (row_new w #[.slice none 0 0, .slice none 0 0] 52)
 obtain ⟨d0, hd0⟩ : ∃ d, seal_ 0 leaf = d := ⟨_, rfl⟩
 have hd32 : d0.length = 32 := by rw [← hd0]; exact seal_len _ _
 have CY := Lib.hid (fun (W : World) (hW : Below w.heap.size w W) => climb_proof d0 i nl Ap np cp p W hd32 hi (by omega) (hp.keep hW) hwf hbad)
 have cl1 := fun (W : World) (hW : Below w.heap.size w W) => leaf_any Ax nx cx leaf W (hx.keep hW).rd hx.len hx.cap hx.max (by omega) (ht.below hW)
 unfold SealPost at cl1
 rw [hd0] at cl1
 have CLL := Lib.hid cl1
 have g1 : ¬ (i : Int) < 0 := by omega
 have g2 : ¬ (nl : Int) ≤ (i : Int) := by omega
 clear hp hwf hbad hx ht cl1 hd0
 go_enter Tryz.func57, Tryz.ntmps57
 go_wp2_with fail
 refine (CLL.out _ HB0.out).mono ?_
 rintro e w1 ⟨rfl, hb1⟩
 have HB1 := Lib.hid (bt HB0.out hb1)
 have HR1 := Lib.hid (HROW0.out.belowS hb1 (Nat.le_refl _))
 clear hb1
 go_wp2_with fail
 refine (CY.out _ HB1.out).mono ?_
 rintro e w2 ⟨rfl, hb2⟩
 have HB2 := Lib.hid (bt HB1.out hb2)
 have hrow := HR1.out.belowS hb2 (Nat.le_refl _)
 have x0 := hrow.cellQ 0 _ rfl
 have x1 := hrow.cellQ 1 _ rfl
 have f0 := hrow.frozen 0
 have f1 := hrow.frozen 1
 have HROW := Lib.hid (show ∀ u v, Row (setFrom w.heap.size w2 0 [u, v]) w.heap.size #[u, v] 52 from fun u v => hrow.all [u, v] rfl)
 clear hb2 hrow
 go_wp2
 generalize hwd : World.setCell (World.setCell w2 _ _) _ _ = wd
 have hsf : setFrom w.heap.size w2 0 [.slice none 0 0, .slice none 0 0] = wd := by rw [← hwd]; rfl
 have r0 : wd.cell? ⟨w.heap.size, 0, none⟩ = some (.slice none 0 0) := by rw [← hsf]; exact (HROW.out _ _).cellQ 0 _ rfl
 have r1 : wd.cell? ⟨w.heap.size, 1, none⟩ = some (.slice none 0 0) := by rw [← hsf]; exact (HROW.out _ _).cellQ 1 _ rfl
 refine bodyPost_ret (v := .tuple #[.agg #[.slice none 0 0, .slice none 0 0], .bool false]) (by simp [results, Tryz.results57, go_sem, r0, r1]) rfl ?_
 rw [← hsf]
 exact ⟨none, 0, 0, none, 0, 0, rfl, Fr.nil _ _, Fr.nil _ _, below_setFrom (Nat.le_refl _) _ 0 HB2.out⟩
section
variable {ops : Array Oper} {rest : List Oper} {o : Oper} {a : Act} {Q : Exit → Act → World → Prop} {w : World}
end
theorem rleaves_any (A : Option Addr) (n c : Nat) (f : Nat → Piece) (w : World) (hr : RowsAt w A n f) (hc : n ≤ c) (hm : c ≤ maxLen) (hn : n ≤ 1000000) (hl : ∀ i, i < n → (f i).n ≤ 1000000) :
  Calls Tryz.prog 41 #[.slice A n c] w (OwnSPost w.heap.size (tleaves f n) w) := by
 rw [maxLen_eq] at hm
 have HR := Lib.hid hr
 have HL := Lib.hid hl
 clear hr hl
 go_enter Tryz.func41, Tryz.ntmps41
 go_wp2
 go_loopw [3, 4] (fun v i wr => ∃ (k : Nat) (A2 : Option Addr) (n2 c2 : Nat), k ≤ n ∧ i = .int .i64 k ∧ v = .slice A2 n2 c2 ∧ n2 ≤ k ∧ OwnS wr w.heap.size A2 n2 c2 (tleaves f k) ∧ Below w.heap.size w wr) (fun _ i _ => n - (intOf i).toNat)
 case atStart => exact ⟨0, none, 0, 0, by omega, rfl, rfl, by omega, OwnS.nil _ _, Below.refl _ _⟩
 case round =>
  obtain ⟨k, A2, n2, c2, hk, rfl, rfl, hnk, hown, hbel⟩ := hrel
  by_cases hlt : k < n
  ·
   obtain ⟨b, off, rfl, hb, hrows⟩ := HR.out (by omega)
   obtain ⟨hcell, hpc⟩ := hrows k hlt
   have hxn := HL.out k hlt
   have HE := Lib.hid (tleaves_succ f k)
   obtain ⟨x, hx⟩ : ∃ x, f k = x := ⟨_, rfl⟩
   rw [hx] at hcell hpc hxn HE
   have HP := Lib.hid hpc
   have x0 := (hbel.cell (p := ⟨b, off + k, none⟩) hb).trans hcell
   clear hrows hcell hpc hx
   go_wp2_with fail
   refine (rleaf_any x.a x.n x.c x.l wr ((HP.out.rd.below' hbel (Nat.le_refl _)).more hbel.size) HP.out.len HP.out.cap HP.out.max hxn).mono ?_
   rintro e w3 ⟨rfl, hb3⟩
   have hown3 := hown.keep hb3
   have hbel3 := bt hbel hb3
   go_wp2_with (at_builtin; refine wl_appS1 rfl (.tmp 11) (.tmp 17) rfl rfl hown3 rfl (seal_ 0 x.l) (by omega) hbel3.size ?_; intro A4 n4 c4 w4 ho4 hb4)
   go_roundw
   case rel => exact ⟨k + 1, A4, n4, c4, by omega, by go_num, rfl, by rw [← ho4.len, List.length_append, hown.len, List.length_singleton]; omega, by rw [HE.out]; exact ho4, hbel3.trans hb4⟩
   case measure => simp [intOf]; omega
  ·
   obtain rfl : k = n := by omega
   go_wp2
   go_ret
   exact ⟨A2, n2, c2, rfl, hown, hbel⟩
theorem topB_le {l : List (List UInt8)} (h : ∀ s ∈ l, s.length = 32) : (Cl.topB l).length ≤ 1000 := by
 unfold Cl.topB
 rw [List.length_cons, List.length_append, troot_len (all_take h _), troot_len (all_drop h _)]
 omega
def fairB (i : Int) (n : Nat) (p : List (List UInt8)) : Bool := decide (0 ≤ i) && (decide (i < (n : Int)) && (Tree.all32 p && decide (p.length = (Tree.sides i.toNat n).length)))
end Go.Proofs.YteoledjllpgcbaaGreatDoor
