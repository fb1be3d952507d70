/- MReplyD: several texts of this claim in one file. No statement of the seat is proved here. -/
import Derived.Test.YteoledjllpgcbaaDoorMReplyC
import Derived.BigQuiet
import Derived.Test.YteoledjllpgcbaaDoorMBase
import Derived.ChangeArms
import Derived.DataReads
import Derived.SliceStrings
import Derived.ChangeSame
import Derived.Deep.Strs
import Derived.Lib.SmallJoins
namespace Go.Proofs.YteoledjllpgcbaaDoor
set_option maxRecDepth 100000
set_option maxHeartbeats 64000000
set_option linter.unusedVariables false
open Go.RowKit
theorem bel_drewN (B : Nat) (w : World) (n : Nat) : Below B w (w.drewN n) := ⟨rfl, rfl, rfl, Nat.le_refl _, fun _ _ => rfl⟩
open Go.ChangeShapes Go.WideShapes Go.ChangeAt Go.RowKit
theorem list2 {α : Type} {l : List α} (h : l.length = 2) : ∃ c0 c1, l = [c0, c1] := by
 match l, h with
 | [c0, c1], _ => exact ⟨c0, c1, rfl⟩
theorem list3 {α : Type} {l : List α} (h : l.length = 3) : ∃ c0 c1 c2, l = [c0, c1, c2] := by
 match l, h with
 | [c0, c1, c2], _ => exact ⟨c0, c1, c2, rfl⟩
theorem list4 {α : Type} {l : List α} (h : l.length = 4) : ∃ c0 c1 c2 c3, l = [c0, c1, c2, c3] := by
 match l, h with
 | [c0, c1, c2, c3], _ => exact ⟨c0, c1, c2, c3, rfl⟩
theorem list6 {α : Type} {l : List α} (h : l.length = 6) : ∃ c0 c1 c2 c3 c4 c5, l = [c0, c1, c2, c3, c4, c5] := by
 match l, h with
 | [c0, c1, c2, c3, c4, c5], _ => exact ⟨c0, c1, c2, c3, c4, c5, rfl⟩
theorem list7 {α : Type} {l : List α} (h : l.length = 7) : ∃ c0 c1 c2 c3 c4 c5 c6, l = [c0, c1, c2, c3, c4, c5, c6] := by
 match l, h with
 | [c0, c1, c2, c3, c4, c5, c6], _ => exact ⟨c0, c1, c2, c3, c4, c5, c6, rfl⟩
theorem cells_at {w : World} {base : Nat} {a : Addr} {n : Nat} {cs : List Value} (h : w.cells? base a n = some cs) : cs.length = n ∧ ∀ (j : Nat) (v : Value), cs[j]? = some v → w.cell? (a.add j) = some v := by
 unfold World.cells? at h
 split at h
 ·
  have h2 : ∀ (l : List Nat) (r : List Value), l.mapM (fun i => w.cell? (a.add i)) = some r → r.length = l.length ∧ ∀ (j : Nat) (v : Value), r[j]? = some v → ∃ i, l[j]? = some i ∧ w.cell? (a.add i) = some v := by
   intro l
   induction l with
   | nil => intro r hr; simp at hr; subst hr; exact ⟨rfl, fun j v hv => by simp at hv⟩
   | cons i l ih =>
    intro r hr
    rw [List.mapM_cons] at hr
    cases hc : w.cell? (a.add i) with
    | none => rw [hc] at hr; simp at hr
    | some v0 =>
     rw [hc] at hr
     cases hm : l.mapM (fun i => w.cell? (a.add i)) with
     | none => rw [hm] at hr; simp at hr
     | some r0 =>
      rw [hm] at hr
      simp at hr
      subst hr
      obtain ⟨e1, e2⟩ := ih r0 hm
      refine ⟨by simp [e1], fun j v hv => ?_⟩
      cases j with
      | zero => simp at hv; subst hv; exact ⟨i, rfl, hc⟩
      | succ j => rw [List.getElem?_cons_succ] at hv ⊢; exact e2 j v hv
  obtain ⟨e1, e2⟩ := h2 _ _ h
  refine ⟨by rw [e1, List.length_range], fun j v hv => ?_⟩
  obtain ⟨i, hi, hc⟩ := e2 j v hv
  have hj : j < (List.range n).length := (List.getElem?_eq_some_iff.1 hi).1
  rw [List.getElem?_range (by simpa using hj)] at hi
  injection hi with hi
  subst hi
  exact hc
 · cases h
theorem add_add (x : Addr) (a b : Nat) : (x.add a).add b = x.add (a + b) := by
 obtain ⟨k, off, spot⟩ := x
 by_cases ha : a = 0 <;> by_cases hb : b = 0 <;> simp [Addr.add, ha, hb, Nat.add_assoc]
theorem sq_of {α : Type} {cs : α → List Value} {k : Nat} (hk : ∀ a, (cs a).length = k) (k0 : 0 < k) {W : World} {x : Addr} {n c : Nat} (f : Nat → α) (hcap : n ≤ c) (hm : c ≤ maxLen)
  (h : ∀ i, i < n → W.cells? 0 (x.add (i * k)) k = some (cs (f i))) : Sq cs k W (some x) n c ((List.range n).map f) := by
 refine ⟨?_, by simp, hcap, hm⟩
 have hc : ∀ i v, (((List.range n).map f).flatMap cs)[i]? = some v → W.cell? (x.add i) = some v := fun i v hv => by
  have hl := flat_len hk ((List.range n).map f)
  have hi : i < n * k := by
   have := (List.getElem?_eq_some_iff.1 hv).1
   rw [hl] at this
   simpa using this
  have ht : i / k < n := Nat.div_lt_of_lt_mul (by rw [Nat.mul_comm]; exact hi)
  have hj : i % k < k := Nat.mod_lt _ k0
  have he : i = i / k * k + i % k := by rw [Nat.mul_comm]; exact (Nat.div_add_mod i k).symm
  have hr : ((List.range n).map f)[i / k]? = some (f (i / k)) := by rw [List.getElem?_map, List.getElem?_range ht]; rfl
  have hv2 : (cs (f (i / k)))[i % k]? = some v := by
   rw [he, flat_at hk _ _ _ _ hr hj] at hv
   exact hv
  have := (cells_at (h _ ht)).2 _ _ hv2
  have e2 : (x.add (i / k * k)).add (i % k) = x.add i := by rw [add_add, ← he]
  rw [e2] at this
  exact this
 by_cases hn : n = 0
 · subst hn; exact Rd.nil
 ·
  refine rd_of_addr ?_ hc
  have h0 := cells_at (h 0 (by omega))
  have hlt : 0 < (cs (f 0)).length := by rw [hk]; exact k0
  have := h0.2 0 _ (List.getElem?_eq_getElem hlt)
  have hb := World.block_lt_of_cell? W _ this
  obtain ⟨b, off, spot⟩ := x
  simpa [Addr.add] using hb
section
variable {H : Type} {enc : TypeId × Value → H} {W : World} {base : Nat} {v : Value} {d : DataW H} {p : List MemPlace} {r : Reach}
theorem open_strsT {a0 : Option Addr} {len0 cap0 : Nat} (h : DataW.Trod enc Tryd.prog W 0 (fun _ => true) true 27 (.slice a0 len0 cap0) d p) :
  ∃ (A : Option Addr) (n c : Nat) (l : List (List UInt8)), (Value.slice a0 len0 cap0 : Value) = .slice A n c ∧ Rd W W.heap.size A (l.map sv) ∧ l.length = n ∧ n ≤ c ∧ c ≤ maxLen ∧ ∀ s ∈ l, s.length ≤ maxLen := by
 obtain ⟨fuel, hf⟩ := h
 rcases open_strings Tryd.underlying27 Tryd.underlying9 (by kernel_rfl) hf with ⟨hcs, _⟩ | ⟨x, l, c, ss, hcs, _, hl, hm, hz, hx, hcell, hwz⟩
 ·
  simp [Value.cells] at hcs
  obtain ⟨rfl, rfl, rfl⟩ := hcs
  exact ⟨none, 0, 0, [], rfl, Rd.nil, rfl, Nat.le_refl _, Nat.zero_le _, by simp⟩
 ·
  simp [Value.cells] at hcs
  obtain ⟨rfl, rfl, rfl⟩ := hcs
  have hz' : ss.length = cap0 := by simpa using hz
  refine ⟨some x, len0, cap0, (ss.take len0).map fun s => s.data.toList, rfl, ?_, by rw [List.length_map, List.length_take]; omega, hl, hm, fun s hs => ?_⟩
  ·
   by_cases hn : ss.take len0 = []
   · rw [hn]; exact Rd.nil
   ·
    have hlen : 0 < (ss.take len0).length := List.length_pos_iff.2 hn
    rw [List.length_take] at hlen
    have hc0 := hcell 0 (by omega)
    have hb : x.block < W.heap.size := by
     have := World.block_lt_of_cell? W _ hc0
     obtain ⟨b, off, spot⟩ := x
     simpa [Addr.add] using this
    refine rd_of_addr hb fun i v hv => ?_
    rw [List.getElem?_map, List.getElem?_map, List.getElem?_take] at hv
    split at hv
    ·
     rename_i hi
     have := hcell i (by omega)
     rw [this]
     have hz2 : ss[i]? = some (ss[i]'(by omega)) := List.getElem?_eq_getElem (by omega)
     rw [hz2] at hv
     simp only [Option.map_some, Option.some.injEq] at hv
     rw [← hv, List.getD, hz2]
     simp [str]
    · simp at hv
  ·
   obtain ⟨t, ht, rfl⟩ := List.mem_map.1 hs
   have := hwz t (List.mem_of_mem_take ht)
   rw [Array.length_toList]; exact this
theorem open_bytesC {fuel : Nat} {cs : List Value} {x : DataW H × List MemPlace} (h : DataW.trod enc Tryd.prog W 0 (fun _ => true) true fuel 28 cs = some x) : ∃ (A : Option Addr) (n c : Nat) (l : List UInt8), cs = [.slice A n c] ∧ Bs W A n c l := by
 obtain ⟨q, e, h1⟩ := open_piece h
 exact ⟨q.a, q.n, q.c, q.l, e, h1.rd, h1.len, h1.cap, h1.max⟩
theorem open_strsC {fuel : Nat} {cs : List Value} {x : DataW H × List MemPlace} (h : DataW.trod enc Tryd.prog W 0 (fun _ => true) true fuel 27 cs = some x) : ∃ (A : Option Addr) (n c : Nat) (l : List (List UInt8)), cs = [.slice A n c] ∧ Ss W A n c l ∧ ∀ s ∈ l, s.length ≤ maxLen := by
 obtain ⟨A, n, c, e⟩ : ∃ A n c, cs = [.slice A n c] := by
  rcases Go.Deep.open_slice Tryd.underlying27 h with ⟨hcs, _⟩ | ⟨a, len, cap, m, n, D, Pl, hcs, _⟩
  · exact ⟨none, 0, 0, hcs⟩
  · exact ⟨some a, len, cap, hcs⟩
 subst e
 have hk : DataW.Trod enc Tryd.prog W 0 (fun _ => true) true 27 (.slice A n c) x.1 x.2 := ⟨fuel, by simpa [Value.cells] using h⟩
 obtain ⟨A2, n2, c2, l, e, h1, h2, h3, h4, h5⟩ := open_strsT hk
 exact ⟨A2, n2, c2, l, by rw [e], ⟨h1, h2, h3, h4⟩, h5⟩
structure InH (W : World) (A : Option Addr) (n c : Nat) (h : Hd.H) : Prop where
 q : Sq sgc 4 W A n c h.segs
 r : ∀ s ∈ h.segs, s.rt.length ≤ maxLen
 l : h.log.length ≤ maxLen
structure InPg (W : World) (A : Option Addr) (n c : Nat) (Ad : Option Addr) (nd cd : Nat) (Ap : Option Addr) (np cp : Nat) (p : Hd.Pg) : Prop where
 h : InH W A n c p.h
 at_ : -9223372036854775808 ≤ p.at_ ∧ p.at_ ≤ 9223372036854775807
 d : Bs W Ad nd cd p.doc
 s : Ss W Ap np cp p.path
 pl : ∀ s ∈ p.path, s.length ≤ maxLen
structure InSt (W : World) (A : Option Addr) (n c : Nat) (Ad : Option Addr) (nd cd : Nat) (Ap : Option Addr) (np cp : Nat) (p : Hd.Stp) : Prop where
 o : InH W A n c p.old
 n : InH W Ad nd cd p.new
 s : Ss W Ap np cp p.proof
 pl : ∀ s ∈ p.proof, s.length ≤ maxLen
end
namespace Hd
theorem drop_add {l x r : By} {a : Nat} (h : l.drop a = x ++ r) : l.drop (a + x.length) = r := by rw [← List.drop_drop, h, List.drop_left]
theorem stNum_of {l r : By} {a v : Nat} (h : l.drop a = Code.num v ++ r) (hv : v ≤ 4611686018427387904) : stNum l ⟨a, 0⟩ = (⟨a + (Code.num v).length, 0⟩, v) := by
 unfold stNum
 simp only [if_true]
 rw [h, Code.getNum_num v r hv]
theorem stText_of {l r s : By} {a : Nat} {most : Int} (h : l.drop a = Code.text s ++ r) (hs : (s.length : Int) ≤ most) (h2 : s.length ≤ 4611686018427387904) : stText l most ⟨a, 0⟩ = (⟨a + (Code.text s).length, 0⟩, s) := by
 unfold stText
 simp only [if_true]
 rw [h, Code.getText_text most s r hs h2]
theorem stDig_of {l r d : By} {a : Nat} (h : l.drop a = d ++ r) (hd : d.length = 32) : stDig l ⟨a, 0⟩ = (⟨a + 32, 0⟩, d) := by
 have h1 : (l.drop a).length = 32 + r.length := by rw [h, List.length_append, hd]
 rw [List.length_drop] at h1
 unfold stDig
 simp only [if_true]
 rw [if_neg (by omega), List.drop_take, show a + 32 - a = 32 by omega, h, ← hd, List.take_left]
theorem stSg_of {l r : By} {a : Nat} {s : Sg} (ok : s.Ok) (h : l.drop a = s.bytes ++ r) : stSg l ⟨a, 0⟩ s.fr = (⟨a + s.bytes.length, 0⟩, s) := by
 have h1 : l.drop a = Code.num s.to.toNat ++ (Code.num s.lk.toNat ++ (s.rt ++ r)) := by rw [h]; unfold Sg.bytes; simp
 have e1 := stNum_of h1 (by have := ok.to1; omega)
 have h2 := drop_add h1
 have e2 := stNum_of h2 (by have := ok.lk1; omega)
 have h3 := drop_add h2
 have e3 := stDig_of h3 ok.rt
 unfold stSg
 simp only [e1, e2, e3]
 have t1 : (s.to.toNat : Int) = s.to := Int.toNat_of_nonneg ok.to0
 have t2 : (s.lk.toNat : Int) = s.lk := Int.toNat_of_nonneg ok.lk0
 rw [t1, t2]
 have t3 : s.bytes.length = (Code.num s.to.toNat).length + ((Code.num s.lk.toNat).length + 32) := by unfold Sg.bytes; rw [List.length_append, List.length_append, ok.rt]
 rw [t3, show a + (Code.num s.to.toNat).length + (Code.num s.lk.toNat).length + 32 = a + ((Code.num s.to.toNat).length + ((Code.num s.lk.toNat).length + 32)) by omega]
def begF (a : Int) (l : List Sg) : Nat → Int
 | 0 => a
 | k + 1 => match l[k]? with
  | some s => s.to
  | none => 0
theorem row_fr : ∀ (l : List Sg) (a size : Int), rowFrom l a size = true → ∀ (k : Nat) (s : Sg), l[k]? = some s → s.fr = begF a l k
 | [], _, _, _, k, s, hs => by simp at hs
 | s0 :: l, a, size, h, k, s, hs => by
  unfold rowFrom at h
  simp only [Bool.and_eq_true, decide_eq_true_eq] at h
  cases k with
  | zero => simp only [List.getElem?_cons_zero, Option.some.injEq] at hs; subst hs; exact h.1
  | succ k =>
   rw [List.getElem?_cons_succ] at hs
   have := row_fr l s0.to size h.2.2 k s hs
   rw [this]
   cases k with
   | zero => rfl
   | succ k => simp only [begF, List.getElem?_cons_succ]
theorem stK_of {l : By} {a : Nat} {L : List Sg} (hok : ∀ s ∈ L, s.Ok) (hfr : ∀ (k : Nat) (s : Sg), L[k]? = some s → s.fr = begF 0 L k) {r : By} (h : l.drop a = L.flatMap Sg.bytes ++ r) : ∀ k, k ≤ L.length → stK l ⟨a, 0⟩ k = (⟨a + ((L.take k).flatMap Sg.bytes).length, 0⟩, begF 0 L k, L.take k)
 | 0, _ => by simp [stK, begF]
 | k + 1, hk => by
  have ih := stK_of hok hfr h k (by omega)
  have hs : L[k]? = some L[k] := List.getElem?_eq_getElem (by omega)
  have hd : l.drop (a + ((L.take k).flatMap Sg.bytes).length) = L[k].bytes ++ ((L.drop (k + 1)).flatMap Sg.bytes ++ r) := by
   refine drop_add (x := (L.take k).flatMap Sg.bytes) ?_
   rw [h]
   conv => lhs; rw [← List.take_append_drop k L]
   rw [List.flatMap_append, List.drop_eq_getElem_cons (by omega : k < L.length), List.flatMap_cons]
   simp
  have e := stSg_of (hok L[k] (List.getElem_mem _)) hd
  rw [hfr k _ hs] at e
  unfold stK
  rw [ih]
  simp only [e]
  have ht : L.take (k + 1) = L.take k ++ [L[k]] := by rw [List.take_add_one, hs]; rfl
  rw [ht]
  simp only [begF, hs, List.flatMap_append, List.flatMap_cons, List.flatMap_nil, List.append_nil, List.length_append]
  rw [show a + ((L.take k).flatMap Sg.bytes).length + L[k].bytes.length = a + (((L.take k).flatMap Sg.bytes).length + L[k].bytes.length) by omega]
theorem rdHd_bytes {h : H} (k : h.ok = true) : rdHd h.bytes = .ok h := by
 have ok := H.ok_iff k
 have hrow : rowFrom h.segs 0 h.size = true := by
  unfold H.ok row at k
  simp only [Bool.and_eq_true, decide_eq_true_eq] at k
  exact k.2.2.2.2
 have h0 : h.bytes.drop 0 = Code.num h.size.toNat ++ (h.log ++ (Code.num h.segs.length ++ (h.segs.flatMap Sg.bytes ++ []))) := by unfold H.bytes; simp
 have e1 := stNum_of h0 (by have := ok.sz1; omega)
 have h1 := drop_add h0
 have e2 := stDig_of h1 ok.log
 have h2 := drop_add h1
 rw [ok.log] at h2
 have e3 := stNum_of h2 (by have := ok.few; omega)
 have h3 := drop_add h2
 have e4 := stK_of ok.all (row_fr _ _ _ hrow) h3 h.segs.length (Nat.le_refl _)
 rw [List.take_length] at e4
 have h4 := drop_add h3
 have hlen := congrArg List.length h4
 rw [List.length_drop, List.length_nil] at hlen
 have t1 : (h.size.toNat : Int) = h.size := Int.toNat_of_nonneg ok.sz0
 rw [Nat.zero_add] at e1
 unfold rdHd
 rw [Nat.zero_add] at *
 simp only [e1, e2, e3, e4]
 rw [if_neg (by have := ok.few; omega)]
 have hd : doneX h.bytes ⟨(Code.num h.size.toNat).length + 32 + (Code.num h.segs.length).length + (h.segs.flatMap Sg.bytes).length, 0⟩ = 0 := by
  unfold doneX
  simp only [ne_eq, not_true, if_false]
  rw [if_neg (by omega)]
 rw [hd]
 simp only [ne_eq, not_true, if_false, t1]
 rw [if_pos k]
end Hd
namespace Hd
theorem bytes_le {h : H} (k : h.ok = true) : h.bytes.length ≤ 10000 := by rw [← H.till_all rfl]; exact H.till_len (H.ok_iff k) _
theorem stHead_of {l r : By} {a : Nat} {h : H} (k : h.ok = true) (e : l.drop a = Code.text h.bytes ++ r) : stHead l ⟨a, 0⟩ = (⟨a + (Code.text h.bytes).length, 0⟩, h) := by
 have hl := bytes_le k
 have e1 := stText_of (most := 10000) e (by omega) (by omega)
 unfold stHead
 rw [e1]
 simp only [ne_eq, not_true, if_false, rdHd_bytes k]
theorem all32_iff {L : List By} : Tree.all32 L = true ↔ ∀ d ∈ L, d.length = 32 := by unfold Tree.all32; simp
theorem stDK_of {l r : By} {a : Nat} {L : List By} (h32 : ∀ d ∈ L, d.length = 32) (h : l.drop a = L.flatten ++ r) : ∀ k, k ≤ L.length → stDK l ⟨a, 0⟩ k = (⟨a + (L.take k).flatten.length, 0⟩, L.take k)
 | 0, _ => by simp [stDK]
 | k + 1, hk => by
  have ih := stDK_of h32 h k (by omega)
  have hs : L[k]? = some L[k] := List.getElem?_eq_getElem (by omega)
  have hd : l.drop (a + (L.take k).flatten.length) = L[k] ++ ((L.drop (k + 1)).flatten ++ r) := by
   refine drop_add (x := (L.take k).flatten) ?_
   rw [h]
   conv => lhs; rw [← List.take_append_drop k L]
   rw [List.flatten_append, List.drop_eq_getElem_cons (by omega : k < L.length), List.flatten_cons]
   simp
  have hl := h32 L[k] (List.getElem_mem _)
  have e := stDig_of hd hl
  unfold stDK
  rw [ih]
  simp only [e]
  have ht : L.take (k + 1) = L.take k ++ [L[k]] := by rw [List.take_add_one, hs]; rfl
  rw [ht, List.flatten_append, List.length_append, List.flatten_cons, List.flatten_nil, List.append_nil, hl, Nat.add_assoc]
theorem stPath_of {l r : By} {a : Nat} {L : List By} (k : pathsOk L = true) (h : l.drop a = pathB L ++ r) : stPath l ⟨a, 0⟩ = (⟨a + (pathB L).length, 0⟩, L) := by
 unfold pathsOk at k
 simp only [Bool.and_eq_true, decide_eq_true_eq] at k
 have h1 : l.drop a = Code.num L.length ++ (L.flatten ++ r) := by rw [h]; unfold pathB; simp
 have e1 := stNum_of h1 (by have := k.1; omega)
 have h2 := drop_add h1
 have e2 := stDK_of (all32_iff.1 k.2) h2 L.length (Nat.le_refl _)
 rw [List.take_length] at e2
 unfold stPath stCount
 simp only [e1]
 rw [if_neg (by have := k.1; omega), e2]
 unfold pathB
 rw [List.length_append, Nat.add_assoc]
theorem wr_bytes {h : H} : h.wr = if h.ok = true then some h.bytes else none := rfl
theorem wHead_ok (s : WS) {h : H} (k : h.ok = true) : wHead s h = ⟨s.l ++ Code.text h.bytes, s.bad⟩ := by
 unfold wHead
 rw [wr_bytes, if_pos k]
 simp only [wText]
 rw [if_neg (by have := bytes_le k; omega)]
theorem wHead_bad (s : WS) (h : H) : (wHead s h).bad = (s.bad || !h.ok) := by
 cases k : h.ok with
 | true => rw [wHead_ok s k]; simp
 | false => unfold wHead; rw [wr_bytes, k]; simp
theorem wNum_ok (s : WS) {v : Int} (h : 0 ≤ v ∧ v ≤ 4611686018427387904) : wNum s v = ⟨s.l ++ Code.num v.toNat, s.bad⟩ := by unfold wNum; rw [if_pos h]
theorem wNum_bad (s : WS) (v : Int) : (wNum s v).bad = (s.bad || !(decide (0 ≤ v) && decide (v ≤ 4611686018427387904))) := by
 unfold wNum
 by_cases h1 : 0 ≤ v <;> by_cases h2 : v ≤ 4611686018427387904 <;> simp [h1, h2]
theorem wText_ok (s : WS) {b : By} {m : Nat} (h : b.length ≤ m) : wText s b m = ⟨s.l ++ Code.text b, s.bad⟩ := by unfold wText; rw [if_neg (by omega)]
theorem wText_bad (s : WS) (b : By) (m : Nat) : (wText s b m).bad = (s.bad || !decide (b.length ≤ m)) := by
 unfold wText
 by_cases h : m < b.length
 · rw [if_pos h]; simp; omega
 · rw [if_neg h]; simp; omega
theorem wDigs_ok : ∀ (L : List By) (s : WS), Tree.all32 L = true → wDigs s L = ⟨s.l ++ L.flatten, s.bad⟩
 | [], s, _ => by simp [wDigs]
 | d :: L, s, h => by
  have h1 := all32_iff.1 h
  rw [wDigs, if_pos (h1 d (List.mem_cons_self ..)), wDigs_ok L _ (all32_iff.2 fun x hx => h1 x (List.mem_cons_of_mem _ hx))]
  simp
theorem wDigs_bad : ∀ (L : List By) (s : WS), (wDigs s L).bad = (s.bad || !Tree.all32 L)
 | [], s => by simp [wDigs, Tree.all32]
 | d :: L, s => by
  rw [wDigs]
  by_cases h : d.length = 32
  · rw [if_pos h, wDigs_bad L]; simp [Tree.all32, h]
  · rw [if_neg h]; simp [Tree.all32, h]
theorem wPath_ok (s : WS) {L : List By} (k : pathsOk L = true) : wPath s L = ⟨s.l ++ pathB L, s.bad⟩ := by
 unfold pathsOk at k
 simp only [Bool.and_eq_true, decide_eq_true_eq] at k
 unfold wPath
 rw [if_neg (by have := k.1; omega), wDigs_ok _ _ k.2, wNum_ok s ⟨by omega, by have := k.1; omega⟩]
 unfold pathB
 rw [Int.toNat_natCast, List.append_assoc]
theorem wPath_bad (s : WS) (L : List By) : (wPath s L).bad = (s.bad || !pathsOk L) := by
 unfold wPath pathsOk
 by_cases h : 64 < L.length
 · rw [if_pos h]; simp; exact .inr (.inl h)
 ·
  rw [if_neg h, wDigs_bad, wNum_bad]
  simp only [show (0 : Int) ≤ (L.length : Int) by omega, show (L.length : Int) ≤ 4611686018427387904 by omega, show L.length ≤ 64 by omega, decide_true, Bool.and_self, Bool.not_true, Bool.or_false, Bool.true_and]
theorem pathB_len {L : List By} (k : pathsOk L = true) : (pathB L).length ≤ 2057 := by
 unfold pathsOk at k
 simp only [Bool.and_eq_true, decide_eq_true_eq] at k
 unfold pathB
 have h1 := Code.num_len9 L.length (by have := k.1; omega)
 have h2 := flatten_le L 32 (fun d hd => by rw [all32_iff.1 k.2 d hd]; omega)
 rw [List.length_append]
 have := k.1
 omega
theorem text_le {s : By} {m : Nat} (h : s.length ≤ m) (hm : m ≤ 1000000) : (Code.text s).length ≤ m + 9 := by
 have := text_len s (by omega)
 omega
theorem num_int {v : Int} (h : 0 ≤ v) : ((v.toNat : Nat) : Int) = v := Int.toNat_of_nonneg h
theorem Pg.fair_iff {p : Pg} : p.fair = true ↔ p.h.ok = true ∧ (0 ≤ p.at_ ∧ p.at_ ≤ 4611686018427387904) ∧ p.doc.length ≤ 2000 ∧ pathsOk p.path = true := by
 unfold Pg.fair
 simp only [Bool.and_eq_true, decide_eq_true_eq, and_assoc]
theorem wrPage_no {p : Pg} (h : p.fair = false) : wrPage p = .error 1 := by
 unfold wrPage wEnd
 rw [wPath_bad, wText_bad, wNum_bad, wHead_bad]
 unfold Pg.fair at h
 rw [if_pos]
 revert h
 generalize p.h.ok = a
 generalize decide (0 ≤ p.at_) = b
 generalize decide (p.at_ ≤ 4611686018427387904) = c
 generalize decide (p.doc.length ≤ 2000) = d
 generalize pathsOk p.path = e
 cases a <;> cases b <;> cases c <;> cases d <;> cases e <;> simp
theorem Pg.bytes_len {p : Pg} (h : p.fair = true) : p.bytes.length ≤ 20000 := by
 obtain ⟨h1, h2, h3, h4⟩ := Pg.fair_iff.1 h
 unfold Pg.bytes
 have a1 := text_le (bytes_le h1) (by omega)
 have a2 := Code.num_len9 p.at_.toNat (by omega)
 have a3 := text_le h3 (by omega)
 have a4 := pathB_len h4
 simp only [List.length_append, List.length_cons, List.length_nil]
 omega
theorem wrPage_ok {p : Pg} (h : p.fair = true) : wrPage p = .ok p.bytes := by
 have hl := Pg.bytes_len h
 obtain ⟨h1, h2, h3, h4⟩ := Pg.fair_iff.1 h
 unfold wrPage
 rw [wHead_ok _ h1, wNum_ok _ h2, wText_ok _ h3, wPath_ok _ h4]
 show wEnd ⟨p.bytes, false⟩ = _
 unfold wEnd
 simp only [Bool.false_eq_true, if_false]
 rw [if_neg (by omega)]
theorem rdPage_bytes {p : Pg} (h : p.fair = true) : rdPage p.bytes = .ok p := by
 have hl := Pg.bytes_len h
 obtain ⟨h1, h2, h3, h4⟩ := Pg.fair_iff.1 h
 have hb : begX p.bytes 2 = 0 := by
  unfold begX
  rw [if_neg (by omega)]
  unfold Pg.bytes
  rfl
 have d0 : p.bytes.drop 1 = Code.text p.h.bytes ++ (Code.num p.at_.toNat ++ (Code.text p.doc ++ (pathB p.path ++ []))) := by unfold Pg.bytes; simp
 have e0 := stHead_of h1 d0
 have d1 := drop_add d0
 have e1 := stNum_of d1 (by omega)
 have d2 := drop_add d1
 have e2 := stText_of (most := 2000) d2 (by omega) (by omega)
 have d3 := drop_add d2
 have e3 := stPath_of h4 d3
 have d4 := drop_add d3
 have hlen := congrArg List.length d4
 rw [List.length_drop, List.length_nil] at hlen
 unfold rdPage
 rw [hb]
 simp only [ne_eq, not_true, if_false, e0, e1, e2, e3]
 rw [if_neg]
 · rw [num_int h2.1]
 ·
  unfold doneX
  simp only [ne_eq, not_true, if_false]
  rw [if_neg (by omega)]
  simp
theorem Stp.fair_iff {p : Stp} : p.fair = true ↔ p.old.ok = true ∧ p.new.ok = true ∧ pathsOk p.proof = true := by
 unfold Stp.fair
 simp only [Bool.and_eq_true]
theorem wrStep_no {p : Stp} (h : p.fair = false) : wrStep p = .error 1 := by
 unfold wrStep wEnd
 rw [wPath_bad, wHead_bad, wHead_bad]
 unfold Stp.fair at h
 rw [if_pos]
 revert h
 generalize p.old.ok = a
 generalize p.new.ok = b
 generalize pathsOk p.proof = e
 cases a <;> cases b <;> cases e <;> simp
theorem Stp.bytes_len {p : Stp} (h : p.fair = true) : p.bytes.length ≤ 30000 := by
 obtain ⟨h1, h2, h4⟩ := Stp.fair_iff.1 h
 unfold Stp.bytes
 have a1 := text_le (bytes_le h1) (by omega)
 have a2 := text_le (bytes_le h2) (by omega)
 have a4 := pathB_len h4
 simp only [List.length_append, List.length_cons, List.length_nil]
 omega
theorem wrStep_ok {p : Stp} (h : p.fair = true) : wrStep p = .ok p.bytes := by
 have hl := Stp.bytes_len h
 obtain ⟨h1, h2, h4⟩ := Stp.fair_iff.1 h
 unfold wrStep
 rw [wHead_ok _ h1, wHead_ok _ h2, wPath_ok _ h4]
 show wEnd ⟨p.bytes, false⟩ = _
 unfold wEnd
 simp only [Bool.false_eq_true, if_false]
 rw [if_neg (by omega)]
theorem rdStep_bytes {p : Stp} (h : p.fair = true) : rdStep p.bytes = .ok p := by
 have hl := Stp.bytes_len h
 obtain ⟨h1, h2, h4⟩ := Stp.fair_iff.1 h
 have hb : begX p.bytes 3 = 0 := by
  unfold begX
  rw [if_neg (by omega)]
  unfold Stp.bytes
  rfl
 have d0 : p.bytes.drop 1 = Code.text p.old.bytes ++ (Code.text p.new.bytes ++ (pathB p.proof ++ [])) := by unfold Stp.bytes; simp
 have e0 := stHead_of h1 d0
 have d1 := drop_add d0
 have e1 := stHead_of h2 d1
 have d3 := drop_add d1
 have e3 := stPath_of h4 d3
 have d4 := drop_add d3
 have hlen := congrArg List.length d4
 rw [List.length_drop, List.length_nil] at hlen
 unfold rdStep
 rw [hb]
 simp only [ne_eq, not_true, if_false, e0, e1, e3]
 rw [if_neg]
 unfold doneX
 simp only [ne_eq, not_true, if_false]
 rw [if_neg (by omega)]
 simp
end Hd
end Go.Proofs.YteoledjllpgcbaaDoor
