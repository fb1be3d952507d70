/- A clash that was told, kept in a block; what a search is worth. No statement of the seat is proved here. -/
import Derived.Test.YtlcdpbpbfofmmaaDoorClashLeaf
namespace Go.Proofs.YtlcdpbpbfofmmaaDoor
set_option maxRecDepth 100000
set_option linter.unusedVariables false
open Go.RowKit
theorem Row.keep {w w' : World} {b : Nat} {cs : Array Value} {t : TypeId} (h : Row w b cs t) (hb : Below w.heap.size w w') : Row w' b cs t := h.belowS hb (Nat.le_refl _)
/-- A clash that was told, in a block. -/
structure CBox (w : World) (b : Nat) (A : Option Addr) (n c : Nat) (B : Option Addr) (m k : Nat) (r : Option (List UInt8 × List UInt8)) : Prop where
  row : Row w b #[.slice A n c, .slice B m k] 29
  ba : Bs w A n c (cl1 r)
  bb : Bs w B m k (cl2 r)
section
variable {w w' : World} {b n c m k : Nat} {A B : Option Addr} {r : Option (List UInt8 × List UInt8)}
theorem CBox.keep (h : CBox w b A n c B m k r) (hb : Below w.heap.size w w') : CBox w' b A n c B m k r := ⟨h.row.keep hb, h.ba.keep hb, h.bb.keep hb⟩
theorem CBox.new {L : Nat} (h1 : Fr w L A n c (cl1 r)) (h2 : Fr w L B m k (cl2 r)) : CBox (w.alloc (.cells #[.slice A n c, .slice B m k] 29)) w.heap.size A n c B m k r :=
  ⟨row_new w _ _, h1.bs.keep ((Below.refl _ w).alloc (Nat.le_refl _) _), h2.bs.keep ((Below.refl _ w).alloc (Nat.le_refl _) _)⟩
theorem CBox.x0 (h : CBox w b A n c B m k r) : w.cell? ⟨b, 0, none⟩ = some (.slice A n c) := h.row.cellQ 0 _ rfl
theorem CBox.x1 (h : CBox w b A n c B m k r) : w.cell? ⟨b, 1, none⟩ = some (.slice B m k) := h.row.cellQ 1 _ rfl
/-- A clash that was told is one. -/
theorem CBox.is (h : CBox w b A n c B m k r) (hs : r.isSome = true) (hcl : ∀ x, r = some x → clashB x.1 x.2 = true ∧ x.1.length ≤ 1000000 ∧ x.2.length ≤ 1000000) (ht : Tabs w) :
    Calls Tryd.prog 20 #[.agg #[.slice A n c, .slice B m k]] w (RetB true w) := by
  obtain ⟨x, rfl⟩ := Option.isSome_iff_exists.1 hs
  obtain ⟨h1, h2, h3⟩ := hcl x rfl
  have ha : Bs w A n c x.1 := h.ba
  have hb : Bs w B m k x.2 := h.bb
  have := is_any A n c B m k x.1 x.2 w ha.rd ha.len ha.cap ha.max (by rw [← ha.len]; exact h2) hb.rd hb.len hb.cap hb.max (by rw [← hb.len]; exact h3) ht
  rw [h1] at this
  exact this
end
/-- A clash, of lists that are not too long. -/
def CSmall (r : Option (List UInt8 × List UInt8)) : Prop := ∀ x, r = some x → clashB x.1 x.2 = true ∧ x.1.length ≤ 1000000 ∧ x.2.length ≤ 1000000
theorem CSmall.none : CSmall none := fun x h => by cases h
theorem lfB_small {f : Nat → Piece} {n : Nat} {i : Int} {leaf : List UInt8} {p : List (List UInt8)} (hl : leaf.length ≤ 1000) (hf : ∀ x ∈ raws f n, x.length ≤ 1000) : CSmall (lfB f n i leaf p) := fun r h => by
  refine ⟨lfB_clash h, ?_⟩
  unfold lfB at h
  split at h
  · rename_i hfb
    unfold fairB at hfb
    rw [Bool.and_eq_true, Bool.and_eq_true, Bool.and_eq_true] at hfb
    exact lf_len leaf hl _ _ _ r hf (all32_of hfb.2.2.1) h
  · cases h
theorem raws_small {w : World} {A : Option Addr} {n : Nat} {f : Nat → Piece} (hr : RowsAt w A n f) {k : Nat} (hs : ∀ i, i < n → (f i).n ≤ k) : ∀ x ∈ raws f n, x.length ≤ k := fun x hx => by
  unfold raws at hx
  obtain ⟨i, hi, rfl⟩ := List.mem_map.1 hx
  have hi2 := List.mem_range.1 hi
  have := hs i hi2
  rw [(rows_pc hr hi2).len]; exact this
end Go.Proofs.YtlcdpbpbfofmmaaDoor
