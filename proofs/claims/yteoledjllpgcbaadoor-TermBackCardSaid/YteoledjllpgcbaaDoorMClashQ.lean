/- MClashQ: several texts of this claim in one file. No statement of the seat is proved here. -/
import Derived.Test.YteoledjllpgcbaaDoorClashLeaf
import Derived.Test.YteoledjllpgcbaaDoorMReplyC
namespace Go.Proofs.YteoledjllpgcbaaDoor
set_option maxRecDepth 100000
set_option maxHeartbeats 64000000
set_option linter.unusedVariables false
open Go.RowKit
theorem Row.keep {w w' : World} {b : Nat} {cs : Array Value} {t : TypeId} (h : Row w b cs t) (hb : Below w.heap.size w w') : Row w' b cs t := h.belowS hb (Nat.le_refl _)
structure CBox (w : World) (b : Nat) (A : Option Addr) (n c : Nat) (B : Option Addr) (m k : Nat) (r : Option (List UInt8 × List UInt8)) : Prop where
 row : Row w b #[.slice A n c, .slice B m k] 41
 ba : Bs w A n c (cl1 r)
 bb : Bs w B m k (cl2 r)
section
variable {w w' : World} {b n c m k : Nat} {A B : Option Addr} {r : Option (List UInt8 × List UInt8)}
theorem CBox.keep (h : CBox w b A n c B m k r) (hb : Below w.heap.size w w') : CBox w' b A n c B m k r := ⟨h.row.keep hb, h.ba.keep hb, h.bb.keep hb⟩
theorem CBox.new {L : Nat} (h1 : Fr w L A n c (cl1 r)) (h2 : Fr w L B m k (cl2 r)) : CBox (w.alloc (.cells #[.slice A n c, .slice B m k] 41)) w.heap.size A n c B m k r :=
 ⟨row_new w _ _, h1.bs.keep ((Below.refl _ w).alloc (Nat.le_refl _) _), h2.bs.keep ((Below.refl _ w).alloc (Nat.le_refl _) _)⟩
theorem CBox.x0 (h : CBox w b A n c B m k r) : w.cell? ⟨b, 0, none⟩ = some (.slice A n c) := h.row.cellQ 0 _ rfl
theorem CBox.x1 (h : CBox w b A n c B m k r) : w.cell? ⟨b, 1, none⟩ = some (.slice B m k) := h.row.cellQ 1 _ rfl
theorem CBox.is (h : CBox w b A n c B m k r) (hs : r.isSome = true) (hcl : ∀ x, r = some x → clashB x.1 x.2 = true ∧ x.1.length ≤ 1000000 ∧ x.2.length ≤ 1000000) (ht : Tabs w) :
  Calls Tryd.prog 89 #[.agg #[.slice A n c, .slice B m k]] w (RetB true w) := by
 obtain ⟨x, rfl⟩ := Option.isSome_iff_exists.1 hs
 obtain ⟨h1, h2, h3⟩ := hcl x rfl
 have ha : Bs w A n c x.1 := h.ba
 have hb : Bs w B m k x.2 := h.bb
 have := is_any A n c B m k x.1 x.2 w ha.rd ha.len ha.cap ha.max (by rw [← ha.len]; exact h2) hb.rd hb.len hb.cap hb.max (by rw [← hb.len]; exact h3) ht
 rw [h1] at this
 exact this
end
def CSmall (r : Option (List UInt8 × List UInt8)) : Prop := ∀ x, r = some x → clashB x.1 x.2 = true ∧ x.1.length ≤ 1000000 ∧ x.2.length ≤ 1000000
theorem CSmall.none : CSmall none := fun x h => by cases h
theorem lfB_small {f : Nat → Piece} {n : Nat} {i : Int} {leaf : List UInt8} {p : List (List UInt8)} (hl : leaf.length ≤ 1000) (hf : ∀ x ∈ raws f n, x.length ≤ 1000) : CSmall (lfB f n i leaf p) := fun r h => by
 refine ⟨lfB_clash h, ?_⟩
 unfold lfB at h
 split at h
 ·
  rename_i hfb
  unfold fairB at hfb
  rw [Bool.and_eq_true, Bool.and_eq_true, Bool.and_eq_true] at hfb
  exact lf_len leaf hl _ _ _ r hf (all32_of hfb.2.2.1) h
 · cases h
theorem raws_small {w : World} {A : Option Addr} {n : Nat} {f : Nat → Piece} (hr : RowsAt w A n f) {k : Nat} (hs : ∀ i, i < n → (f i).n ≤ k) : ∀ x ∈ raws f n, x.length ≤ k := fun x hx => by
 unfold raws at hx
 obtain ⟨i, hi, rfl⟩ := List.mem_map.1 hx
 have hi2 := List.mem_range.1 hi
 have := hs i hi2
 rw [(rows_pc hr hi2).len]; exact this
theorem cposts_any (A : Option Addr) (n c : Nat) (B : Option Addr) (m k : Nat) (x y : List UInt8) (w : World) (hA : Bs w A n c x) (hn : n ≤ 100000) (hB : Bs w B m k y) (hn2 : m ≤ 100000) (ht : Tabs w) :
  Calls Tryd.prog 32 #[.slice A n c, .slice B m k] w (ResPost w.heap.size (Cl.btw (2 :: x) (2 :: y)) w) := by
 have hl0 : w.heap.size < (w.alloc (.cells #[.slice none 0 0, .slice none 0 0] 41)).heap.size := by rw [size_alloc]; omega
 have hb0 : Below w.heap.size w (w.alloc (.cells #[.slice none 0 0, .slice none 0 0] 41)) := (Below.refl _ w).alloc (Nat.le_refl _) _
 have hrow0 := row_new w #[.slice none 0 0, .slice none 0 0] 41
 obtain ⟨w1, hw1⟩ : ∃ w1, (w.alloc (.cells #[.slice none 0 0, .slice none 0 0] 41)) = w1 := ⟨_, rfl⟩
 rw [hw1] at hl0 hb0 hrow0
 have HW1 := Lib.hid hw1
 have HLT := Lib.hid hl0
 have HB0 := Lib.hid hb0
 have HROW0 := Lib.hid hrow0
 have P1 := Lib.hid (show ∀ W, Below w.heap.size w W → Calls Tryd.prog 68 #[.slice A n c] W (Ret8 W.heap.size (2 :: x) W) from fun W hW => by
  have h := hA.keep hW
  exact (postsBytes_any A n c x W h.rd h.len h.cap h.max (by omega)).mono fun e w2 h => h.ret8)
 have P2 := Lib.hid (show ∀ W, Below w.heap.size w W → Calls Tryd.prog 68 #[.slice B m k] W (Ret8 W.heap.size (2 :: y) W) from fun W hW => by
  have h := hB.keep hW
  exact (postsBytes_any B m k y W h.rd h.len h.cap h.max (by omega)).mono fun e w2 h => h.ret8)
 unfold Ret8 at P1 P2
 obtain ⟨r, hr⟩ : ∃ r, Cl.btw (2 :: x) (2 :: y) = r := ⟨_, rfl⟩
 have CB := Lib.hid (show ∀ (L : Nat) (A1 : Option Addr) (n1 c1 : Nat) (B1 : Option Addr) (m1 k1 : Nat) (W : World), Below w.heap.size w W → Own8 W L A1 n1 c1 (2 :: x) → Own8 W L B1 m1 k1 (2 :: y) → Calls Tryd.prog 67 #[.slice A1 n1 c1, .slice B1 m1 k1] W (ResPost W.heap.size r W) from fun L A1 n1 c1 B1 m1 k1 W hW h1 h2 => by
  rw [← hr]
  exact betw_any A1 n1 c1 B1 m1 k1 _ _ W (Fr.of8 h1).bs (by rw [← h1.len, List.length_cons, hA.len]; omega) (Fr.of8 h2).bs (by rw [← h2.len, List.length_cons, hB.len]; omega) (ht.below hW))
 rw [hr]
 clear hl0 hb0 hrow0 hw1 hA hB ht hr
 go_enter Tryd.func32, Tryd.ntmps32
 go_wp2_with fail
 rw [HW1.out]
 refine (P1.out w1 HB0.out).mono ?_
 rintro e w3 ⟨A3, n3, c3, rfl, ho3, hb3⟩
 have HB3 := Lib.hid hb3
 have HO3 := Lib.hid ho3
 clear hb3 ho3
 go_wp2_with fail
 refine (P2.out w3 (bt HB0.out HB3.out)).mono ?_
 rintro e w4 ⟨A4, n4, c4, rfl, ho4, hb4⟩
 have HO4 := Lib.hid (ho4.base HB3.out.size)
 have HP4 := Lib.hid (HO3.out.keep hb4)
 have HB4 := Lib.hid (bt HB3.out hb4)
 clear hb4 ho4
 go_wp2_with fail
 refine (CB.out w1.heap.size A3 n3 c3 A4 n4 c4 w4 (bt HB0.out HB4.out) HP4.out HO4.out).mono ?_
 rintro e w5 ⟨A7, n7, c7, B7, m7, k7, rfl, hf1, hf2, hb5⟩
 have HB5 := Lib.hid (bt HB4.out hb5)
 have HF := Lib.hid (And.intro (hf1.base HB4.out.size) (hf2.base HB4.out.size))
 have hres := Row.belowS HROW0.out HB5.out (Nat.le_refl _)
 have x0 := hres.cellQ 0 _ rfl
 have x1 := hres.cellQ 1 _ rfl
 have f0 := hres.frozen 0
 have f1 := hres.frozen 1
 have HROW := Lib.hid (show ∀ u v, Row (setFrom w.heap.size w5 0 [u, v]) w.heap.size #[u, v] 41 from fun u v => hres.all [u, v] rfl)
 clear hres hf1 hf2 hb5
 go_wp2
 generalize hwd : World.setCell (World.setCell w5 _ _) _ _ = wd
 have hsf : setFrom w.heap.size w5 0 [.slice A7 n7 c7, .slice B7 m7 k7] = wd := by rw [← hwd]; rfl
 have r0 : wd.cell? ⟨w.heap.size, 0, none⟩ = some (.slice A7 n7 c7) := by rw [← hsf]; exact (HROW.out _ _).cellQ 0 _ rfl
 have r1 : wd.cell? ⟨w.heap.size, 1, none⟩ = some (.slice B7 m7 k7) := by rw [← hsf]; exact (HROW.out _ _).cellQ 1 _ rfl
 refine bodyPost_ret (v := .tuple #[.agg #[.slice A7 n7 c7, .slice B7 m7 k7], .bool r.isSome]) (by simp [results, Tryd.results32, go_sem, r0, r1]) rfl ?_
 exact ⟨A7, n7, c7, B7, m7, k7, rfl, by rw [← hsf]; exact (HF.out.1.set HLT.out _ 0).base (Nat.le_of_lt HLT.out), by rw [← hsf]; exact (HF.out.2.set HLT.out _ 0).base (Nat.le_of_lt HLT.out), by rw [← hsf]; exact below_setFrom (Nat.le_refl _) _ 0 (bt HB0.out HB5.out)⟩
section
variable {w w' : World} {b n c m k : Nat} {A B : Option Addr} {r : Option (List UInt8 × List UInt8)}
end
theorem csmall_len {r : Option (List UInt8 × List UInt8)} (h : CSmall r) : (cl1 r).length ≤ 1000000 ∧ (cl2 r).length ≤ 1000000 := by
 cases r with
 | none => exact ⟨Nat.zero_le _, Nat.zero_le _⟩
 | some x => exact (h x rfl).2
theorem btw_small {a b : List UInt8} (ha : a.length ≤ 1000000) (hb : b.length ≤ 1000000) : CSmall (Cl.btw a b) := fun r h => by
 refine ⟨Cl.btw_some h, ?_⟩
 unfold Cl.btw at h
 split at h
 ·
  injection h with h
  rw [← h]; exact ⟨ha, hb⟩
 · cases h
theorem Fr.setBox {w : World} {L n c b : Nat} {A : Option Addr} {l : List UInt8} {t : TypeId} (h : Fr w L A n c l) (hrow : Row w b #[.slice none 0 0, .slice none 0 0] t) (vs : List Value) (k : Nat) : Fr (setFrom b w k vs) L A n c l := by
 refine ⟨fun hn => ?_, h.low, h.len, h.cap, h.max⟩
 obtain ⟨b1, off, rfl, hlt, hc⟩ := h.rd hn
 refine ⟨b1, off, rfl, by rw [size_setFrom]; exact hlt, fun j v hv => ?_⟩
 rw [← hc j v hv]
 refine World.cell?_of_block (heap_setFrom (fun e => ?_) vs w k)
 subst e
 have h1 := hc j v hv
 obtain ⟨x, hx⟩ : ∃ x : UInt8, v = bv x := by
  rw [List.getElem?_map] at hv
  cases hq : l[j]? with
  | none => rw [hq] at hv; cases hv
  | some x => rw [hq] at hv; injection hv with hv; exact ⟨x, hv.symm⟩
 unfold Row at hrow
 simp only [World.cell?, hrow] at h1
 subst hx
 rcases (show off + j = 0 ∨ off + j = 1 ∨ 2 ≤ off + j by omega) with h2 | h2 | h2
 · rw [h2] at h1; simp [bv] at h1
 · rw [h2] at h1; simp [bv] at h1
 · rw [Array.getElem?_eq_none (by simpa using h2)] at h1; simp at h1
end Go.Proofs.YteoledjllpgcbaaDoor
