/- MClashQ: several texts of this claim in one file. No statement of the seat is proved here. -/
import Derived.Test.YteoledjllpgcbaaGreatDoorClashLeaf
import Derived.Test.YteoledjllpgcbaaGreatDoorMReplyC
namespace Go.Proofs.YteoledjllpgcbaaGreatDoor
set_option maxRecDepth 100000
set_option maxHeartbeats 64000000
set_option linter.unusedVariables false
open Go.RowKit
structure CBox (w : World) (b : Nat) (A : Option Addr) (n c : Nat) (B : Option Addr) (m k : Nat) (r : Option (List UInt8 × List UInt8)) : Prop where
 row : Row w b #[.slice A n c, .slice B m k] 52
 ba : Bs w A n c (cl1 r)
 bb : Bs w B m k (cl2 r)
section
variable {w w' : World} {b n c m k : Nat} {A B : Option Addr} {r : Option (List UInt8 × List UInt8)}
theorem CBox.new {L : Nat} (h1 : Fr w L A n c (cl1 r)) (h2 : Fr w L B m k (cl2 r)) : CBox (w.alloc (.cells #[.slice A n c, .slice B m k] 52)) w.heap.size A n c B m k r :=
 ⟨row_new w _ _, h1.bs.keep ((Below.refl _ w).alloc (Nat.le_refl _) _), h2.bs.keep ((Below.refl _ w).alloc (Nat.le_refl _) _)⟩
theorem CBox.x0 (h : CBox w b A n c B m k r) : w.cell? ⟨b, 0, none⟩ = some (.slice A n c) := h.row.cellQ 0 _ rfl
theorem CBox.x1 (h : CBox w b A n c B m k r) : w.cell? ⟨b, 1, none⟩ = some (.slice B m k) := h.row.cellQ 1 _ rfl
theorem CBox.is (h : CBox w b A n c B m k r) (hs : r.isSome = true) (hcl : ∀ x, r = some x → clashB x.1 x.2 = true ∧ x.1.length ≤ 1000000 ∧ x.2.length ≤ 1000000) (ht : Tabs w) :
  Calls Tryz.prog 22 #[.agg #[.slice A n c, .slice B m k]] w (RetB true w) := by
 obtain ⟨x, rfl⟩ := Option.isSome_iff_exists.1 hs
 obtain ⟨h1, h2, h3⟩ := hcl x rfl
 have ha : Bs w A n c x.1 := h.ba
 have hb : Bs w B m k x.2 := h.bb
 have := is_any A n c B m k x.1 x.2 w ha.rd ha.len ha.cap ha.max (by rw [← ha.len]; exact h2) hb.rd hb.len hb.cap hb.max (by rw [← hb.len]; exact h3) ht
 rw [h1] at this
 exact this
end
def CSmall (r : Option (List UInt8 × List UInt8)) : Prop := ∀ x, r = some x → clashB x.1 x.2 = true ∧ x.1.length ≤ 1000000 ∧ x.2.length ≤ 1000000
theorem cposts_any (A : Option Addr) (n c : Nat) (B : Option Addr) (m k : Nat) (x y : List UInt8) (w : World) (hA : Bs w A n c x) (hn : n ≤ 100000) (hB : Bs w B m k y) (hn2 : m ≤ 100000) (ht : Tabs w) :
  Calls Tryz.prog 58 #[.slice A n c, .slice B m k] w (ResPost w.heap.size (Cl.btw (2 :: x) (2 :: y)) w) := by
 have hl0 : w.heap.size < (w.alloc (.cells #[.slice none 0 0, .slice none 0 0] 52)).heap.size := by rw [size_alloc]; omega
 have hb0 : Below w.heap.size w (w.alloc (.cells #[.slice none 0 0, .slice none 0 0] 52)) := (Below.refl _ w).alloc (Nat.le_refl _) _
 have hrow0 := row_new w #[.slice none 0 0, .slice none 0 0] 52
 obtain ⟨w1, hw1⟩ : ∃ w1, (w.alloc (.cells #[.slice none 0 0, .slice none 0 0] 52)) = w1 := ⟨_, rfl⟩
 rw [hw1] at hl0 hb0 hrow0
 have HW1 := Lib.hid hw1
 have HLT := Lib.hid hl0
 have HB0 := Lib.hid hb0
 have HROW0 := Lib.hid hrow0
 have P1 := Lib.hid (show ∀ W, Below w.heap.size w W → Calls Tryz.prog 107 #[.slice A n c] W (Ret8 W.heap.size (2 :: x) W) from fun W hW => by
  have h := hA.keep hW
  exact (postsBytes_any A n c x W h.rd h.len h.cap h.max (by omega)).mono fun e w2 h => h.ret8)
 have P2 := Lib.hid (show ∀ W, Below w.heap.size w W → Calls Tryz.prog 107 #[.slice B m k] W (Ret8 W.heap.size (2 :: y) W) from fun W hW => by
  have h := hB.keep hW
  exact (postsBytes_any B m k y W h.rd h.len h.cap h.max (by omega)).mono fun e w2 h => h.ret8)
 unfold Ret8 at P1 P2
 obtain ⟨r, hr⟩ : ∃ r, Cl.btw (2 :: x) (2 :: y) = r := ⟨_, rfl⟩
 have CB := Lib.hid (show ∀ (L : Nat) (A1 : Option Addr) (n1 c1 : Nat) (B1 : Option Addr) (m1 k1 : Nat) (W : World), Below w.heap.size w W → Own8 W L A1 n1 c1 (2 :: x) → Own8 W L B1 m1 k1 (2 :: y) → Calls Tryz.prog 106 #[.slice A1 n1 c1, .slice B1 m1 k1] W (ResPost W.heap.size r W) from fun L A1 n1 c1 B1 m1 k1 W hW h1 h2 => by
  rw [← hr]
  exact betw_any A1 n1 c1 B1 m1 k1 _ _ W (Fr.of8 h1).bs (by rw [← h1.len, List.length_cons, hA.len]; omega) (Fr.of8 h2).bs (by rw [← h2.len, List.length_cons, hB.len]; omega) (ht.below hW))
 rw [hr]
 clear hl0 hb0 hrow0 hw1 hA hB ht hr
 go_enter Tryz.func58, Tryz.ntmps58
 go_wp2_with fail
 rw [HW1.out]
 refine (P1.out w1 HB0.out).mono ?_
 rintro e w3 ⟨A3, n3, c3, rfl, ho3, hb3⟩
 have HB3 := Lib.hid hb3
 have HO3 := Lib.hid ho3
 clear hb3 ho3
 go_wp2_with fail
 refine (P2.out w3 (bt HB0.out HB3.out)).mono ?_
 rintro e w4 ⟨A4, n4, c4, rfl, ho4, hb4⟩
 have HO4 := Lib.hid (ho4.base HB3.out.size)
 have HP4 := Lib.hid (HO3.out.keep hb4)
 have HB4 := Lib.hid (bt HB3.out hb4)
 clear hb4 ho4
 go_wp2_with fail
 refine (CB.out w1.heap.size A3 n3 c3 A4 n4 c4 w4 (bt HB0.out HB4.out) HP4.out HO4.out).mono ?_
 rintro e w5 ⟨A7, n7, c7, B7, m7, k7, rfl, hf1, hf2, hb5⟩
 have HB5 := Lib.hid (bt HB4.out hb5)
 have HF := Lib.hid (And.intro (hf1.base HB4.out.size) (hf2.base HB4.out.size))
 have hres := Row.belowS HROW0.out HB5.out (Nat.le_refl _)
 have x0 := hres.cellQ 0 _ rfl
 have x1 := hres.cellQ 1 _ rfl
 have f0 := hres.frozen 0
 have f1 := hres.frozen 1
 have HROW := Lib.hid (show ∀ u v, Row (setFrom w.heap.size w5 0 [u, v]) w.heap.size #[u, v] 52 from fun u v => hres.all [u, v] rfl)
 clear hres hf1 hf2 hb5
 go_wp2
 generalize hwd : World.setCell (World.setCell w5 _ _) _ _ = wd
 have hsf : setFrom w.heap.size w5 0 [.slice A7 n7 c7, .slice B7 m7 k7] = wd := by rw [← hwd]; rfl
 have r0 : wd.cell? ⟨w.heap.size, 0, none⟩ = some (.slice A7 n7 c7) := by rw [← hsf]; exact (HROW.out _ _).cellQ 0 _ rfl
 have r1 : wd.cell? ⟨w.heap.size, 1, none⟩ = some (.slice B7 m7 k7) := by rw [← hsf]; exact (HROW.out _ _).cellQ 1 _ rfl
 refine bodyPost_ret (v := .tuple #[.agg #[.slice A7 n7 c7, .slice B7 m7 k7], .bool r.isSome]) (by simp [results, Tryz.results58, go_sem, r0, r1]) rfl ?_
 exact ⟨A7, n7, c7, B7, m7, k7, rfl, by rw [← hsf]; exact (HF.out.1.set HLT.out _ 0).base (Nat.le_of_lt HLT.out), by rw [← hsf]; exact (HF.out.2.set HLT.out _ 0).base (Nat.le_of_lt HLT.out), by rw [← hsf]; exact below_setFrom (Nat.le_refl _) _ 0 (bt HB0.out HB5.out)⟩
section
variable {w w' : World} {b n c m k : Nat} {A B : Option Addr} {r : Option (List UInt8 × List UInt8)}
end
theorem btw_small {a b : List UInt8} (ha : a.length ≤ 1000000) (hb : b.length ≤ 1000000) : CSmall (Cl.btw a b) := fun r h => by
 refine ⟨Cl.btw_some h, ?_⟩
 unfold Cl.btw at h
 split at h
 ·
  injection h with h
  rw [← h]; exact ⟨ha, hb⟩
 · cases h
end Go.Proofs.YteoledjllpgcbaaGreatDoor
