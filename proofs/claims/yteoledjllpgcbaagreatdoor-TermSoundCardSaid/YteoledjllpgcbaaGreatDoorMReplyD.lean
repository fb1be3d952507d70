/- MReplyD: several texts of this claim in one file. No statement of the seat is proved here. -/
import Derived.Test.YteoledjllpgcbaaGreatDoorMReplyC
import Derived.BigQuiet
import Derived.Test.YteoledjllpgcbaaGreatDoorMBase
import Derived.ChangeArms
import Derived.DataReads
import Derived.SliceStrings
import Derived.ChangeSame
import Derived.Deep.Strs
import Derived.Lib.SmallJoins
namespace Go.Proofs.YteoledjllpgcbaaGreatDoor
set_option maxRecDepth 100000
set_option maxHeartbeats 64000000
set_option linter.unusedVariables false
open Go.RowKit
theorem bel_drewN (B : Nat) (w : World) (n : Nat) : Below B w (w.drewN n) := ⟨rfl, rfl, rfl, Nat.le_refl _, fun _ _ => rfl⟩
open Go.ChangeShapes Go.WideShapes Go.ChangeAt Go.RowKit
theorem list2 {α : Type} {l : List α} (h : l.length = 2) : ∃ c0 c1, l = [c0, c1] := by
 match l, h with
 | [c0, c1], _ => exact ⟨c0, c1, rfl⟩
theorem list3 {α : Type} {l : List α} (h : l.length = 3) : ∃ c0 c1 c2, l = [c0, c1, c2] := by
 match l, h with
 | [c0, c1, c2], _ => exact ⟨c0, c1, c2, rfl⟩
theorem list6 {α : Type} {l : List α} (h : l.length = 6) : ∃ c0 c1 c2 c3 c4 c5, l = [c0, c1, c2, c3, c4, c5] := by
 match l, h with
 | [c0, c1, c2, c3, c4, c5], _ => exact ⟨c0, c1, c2, c3, c4, c5, rfl⟩
theorem cells_at {w : World} {base : Nat} {a : Addr} {n : Nat} {cs : List Value} (h : w.cells? base a n = some cs) : cs.length = n ∧ ∀ (j : Nat) (v : Value), cs[j]? = some v → w.cell? (a.add j) = some v := by
 unfold World.cells? at h
 split at h
 ·
  have h2 : ∀ (l : List Nat) (r : List Value), l.mapM (fun i => w.cell? (a.add i)) = some r → r.length = l.length ∧ ∀ (j : Nat) (v : Value), r[j]? = some v → ∃ i, l[j]? = some i ∧ w.cell? (a.add i) = some v := by
   intro l
   induction l with
   | nil => intro r hr; simp at hr; subst hr; exact ⟨rfl, fun j v hv => by simp at hv⟩
   | cons i l ih =>
    intro r hr
    rw [List.mapM_cons] at hr
    cases hc : w.cell? (a.add i) with
    | none => rw [hc] at hr; simp at hr
    | some v0 =>
     rw [hc] at hr
     cases hm : l.mapM (fun i => w.cell? (a.add i)) with
     | none => rw [hm] at hr; simp at hr
     | some r0 =>
      rw [hm] at hr
      simp at hr
      subst hr
      obtain ⟨e1, e2⟩ := ih r0 hm
      refine ⟨by simp [e1], fun j v hv => ?_⟩
      cases j with
      | zero => simp at hv; subst hv; exact ⟨i, rfl, hc⟩
      | succ j => rw [List.getElem?_cons_succ] at hv ⊢; exact e2 j v hv
  obtain ⟨e1, e2⟩ := h2 _ _ h
  refine ⟨by rw [e1, List.length_range], fun j v hv => ?_⟩
  obtain ⟨i, hi, hc⟩ := e2 j v hv
  have hj : j < (List.range n).length := (List.getElem?_eq_some_iff.1 hi).1
  rw [List.getElem?_range (by simpa using hj)] at hi
  injection hi with hi
  subst hi
  exact hc
 · cases h
theorem add_add (x : Addr) (a b : Nat) : (x.add a).add b = x.add (a + b) := by
 obtain ⟨k, off, spot⟩ := x
 by_cases ha : a = 0 <;> by_cases hb : b = 0 <;> simp [Addr.add, ha, hb, Nat.add_assoc]
theorem sq_of {α : Type} {cs : α → List Value} {k : Nat} (hk : ∀ a, (cs a).length = k) (k0 : 0 < k) {W : World} {x : Addr} {n c : Nat} (f : Nat → α) (hcap : n ≤ c) (hm : c ≤ maxLen)
  (h : ∀ i, i < n → W.cells? 0 (x.add (i * k)) k = some (cs (f i))) : Sq cs k W (some x) n c ((List.range n).map f) := by
 refine ⟨?_, by simp, hcap, hm⟩
 have hc : ∀ i v, (((List.range n).map f).flatMap cs)[i]? = some v → W.cell? (x.add i) = some v := fun i v hv => by
  have hl := flat_len hk ((List.range n).map f)
  have hi : i < n * k := by
   have := (List.getElem?_eq_some_iff.1 hv).1
   rw [hl] at this
   simpa using this
  have ht : i / k < n := Nat.div_lt_of_lt_mul (by rw [Nat.mul_comm]; exact hi)
  have hj : i % k < k := Nat.mod_lt _ k0
  have he : i = i / k * k + i % k := by rw [Nat.mul_comm]; exact (Nat.div_add_mod i k).symm
  have hr : ((List.range n).map f)[i / k]? = some (f (i / k)) := by rw [List.getElem?_map, List.getElem?_range ht]; rfl
  have hv2 : (cs (f (i / k)))[i % k]? = some v := by
   rw [he, flat_at hk _ _ _ _ hr hj] at hv
   exact hv
  have := (cells_at (h _ ht)).2 _ _ hv2
  have e2 : (x.add (i / k * k)).add (i % k) = x.add i := by rw [add_add, ← he]
  rw [e2] at this
  exact this
 by_cases hn : n = 0
 · subst hn; exact Rd.nil
 ·
  refine rd_of_addr ?_ hc
  have h0 := cells_at (h 0 (by omega))
  have hlt : 0 < (cs (f 0)).length := by rw [hk]; exact k0
  have := h0.2 0 _ (List.getElem?_eq_getElem hlt)
  have hb := World.block_lt_of_cell? W _ this
  obtain ⟨b, off, spot⟩ := x
  simpa [Addr.add] using hb
section
variable {H : Type} {enc : TypeId × Value → H} {W : World} {base : Nat} {v : Value} {d : DataW H} {p : List MemPlace} {r : Reach}
theorem open_strsT {a0 : Option Addr} {len0 cap0 : Nat} (h : DataW.Trod enc Tryz.prog W 0 (fun _ => true) true 27 (.slice a0 len0 cap0) d p) :
  ∃ (A : Option Addr) (n c : Nat) (l : List (List UInt8)), (Value.slice a0 len0 cap0 : Value) = .slice A n c ∧ Rd W W.heap.size A (l.map sv) ∧ l.length = n ∧ n ≤ c ∧ c ≤ maxLen ∧ ∀ s ∈ l, s.length ≤ maxLen := by
 obtain ⟨fuel, hf⟩ := h
 rcases open_strings Tryz.underlying27 Tryz.underlying9 (by kernel_rfl) hf with ⟨hcs, _⟩ | ⟨x, l, c, ss, hcs, _, hl, hm, hz, hx, hcell, hwz⟩
 ·
  simp [Value.cells] at hcs
  obtain ⟨rfl, rfl, rfl⟩ := hcs
  exact ⟨none, 0, 0, [], rfl, Rd.nil, rfl, Nat.le_refl _, Nat.zero_le _, by simp⟩
 ·
  simp [Value.cells] at hcs
  obtain ⟨rfl, rfl, rfl⟩ := hcs
  have hz' : ss.length = cap0 := by simpa using hz
  refine ⟨some x, len0, cap0, (ss.take len0).map fun s => s.data.toList, rfl, ?_, by rw [List.length_map, List.length_take]; omega, hl, hm, fun s hs => ?_⟩
  ·
   by_cases hn : ss.take len0 = []
   · rw [hn]; exact Rd.nil
   ·
    have hlen : 0 < (ss.take len0).length := List.length_pos_iff.2 hn
    rw [List.length_take] at hlen
    have hc0 := hcell 0 (by omega)
    have hb : x.block < W.heap.size := by
     have := World.block_lt_of_cell? W _ hc0
     obtain ⟨b, off, spot⟩ := x
     simpa [Addr.add] using this
    refine rd_of_addr hb fun i v hv => ?_
    rw [List.getElem?_map, List.getElem?_map, List.getElem?_take] at hv
    split at hv
    ·
     rename_i hi
     have := hcell i (by omega)
     rw [this]
     have hz2 : ss[i]? = some (ss[i]'(by omega)) := List.getElem?_eq_getElem (by omega)
     rw [hz2] at hv
     simp only [Option.map_some, Option.some.injEq] at hv
     rw [← hv, List.getD, hz2]
     simp [str]
    · simp at hv
  ·
   obtain ⟨t, ht, rfl⟩ := List.mem_map.1 hs
   have := hwz t (List.mem_of_mem_take ht)
   rw [Array.length_toList]; exact this
theorem open_bytesC {fuel : Nat} {cs : List Value} {x : DataW H × List MemPlace} (h : DataW.trod enc Tryz.prog W 0 (fun _ => true) true fuel 28 cs = some x) : ∃ (A : Option Addr) (n c : Nat) (l : List UInt8), cs = [.slice A n c] ∧ Bs W A n c l := by
 obtain ⟨q, e, h1⟩ := open_piece h
 exact ⟨q.a, q.n, q.c, q.l, e, h1.rd, h1.len, h1.cap, h1.max⟩
theorem open_strsC {fuel : Nat} {cs : List Value} {x : DataW H × List MemPlace} (h : DataW.trod enc Tryz.prog W 0 (fun _ => true) true fuel 27 cs = some x) : ∃ (A : Option Addr) (n c : Nat) (l : List (List UInt8)), cs = [.slice A n c] ∧ Ss W A n c l ∧ ∀ s ∈ l, s.length ≤ maxLen := by
 obtain ⟨A, n, c, e⟩ : ∃ A n c, cs = [.slice A n c] := by
  rcases Go.Deep.open_slice Tryz.underlying27 h with ⟨hcs, _⟩ | ⟨a, len, cap, m, n, D, Pl, hcs, _⟩
  · exact ⟨none, 0, 0, hcs⟩
  · exact ⟨some a, len, cap, hcs⟩
 subst e
 have hk : DataW.Trod enc Tryz.prog W 0 (fun _ => true) true 27 (.slice A n c) x.1 x.2 := ⟨fuel, by simpa [Value.cells] using h⟩
 obtain ⟨A2, n2, c2, l, e, h1, h2, h3, h4, h5⟩ := open_strsT hk
 exact ⟨A2, n2, c2, l, by rw [e], ⟨h1, h2, h3, h4⟩, h5⟩
end
namespace Hd
theorem drop_add {l x r : By} {a : Nat} (h : l.drop a = x ++ r) : l.drop (a + x.length) = r := by rw [← List.drop_drop, h, List.drop_left]
theorem stText_of {l r s : By} {a : Nat} {most : Int} (h : l.drop a = Code.text s ++ r) (hs : (s.length : Int) ≤ most) (h2 : s.length ≤ 4611686018427387904) : stText l most ⟨a, 0⟩ = (⟨a + (Code.text s).length, 0⟩, s) := by
 unfold stText
 simp only [if_true]
 rw [h, Code.getText_text most s r hs h2]
theorem stDig_of {l r d : By} {a : Nat} (h : l.drop a = d ++ r) (hd : d.length = 32) : stDig l ⟨a, 0⟩ = (⟨a + 32, 0⟩, d) := by
 have h1 : (l.drop a).length = 32 + r.length := by rw [h, List.length_append, hd]
 rw [List.length_drop] at h1
 unfold stDig
 simp only [if_true]
 rw [if_neg (by omega), List.drop_take, show a + 32 - a = 32 by omega, h, ← hd, List.take_left]
def begF (a : Int) (l : List Sg) : Nat → Int
 | 0 => a
 | k + 1 => match l[k]? with
  | some s => s.to
  | none => 0
end Hd
namespace Hd
theorem text_le {s : By} {m : Nat} (h : s.length ≤ m) (hm : m ≤ 1000000) : (Code.text s).length ≤ m + 9 := by
 have := text_len s (by omega)
 omega
end Hd
end Go.Proofs.YteoledjllpgcbaaGreatDoor
