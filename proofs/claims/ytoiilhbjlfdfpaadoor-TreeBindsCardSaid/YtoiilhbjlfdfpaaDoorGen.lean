/- General lemmas on memory for this seat's walks: slices that read as lists, cuts, appends, conversions. No statement of the seat is proved here. -/
import Derived.Test.YtoiilhbjlfdfpaaDoorRows
import Derived.WalkKit
import Derived.WalkSpells
import Derived.WalkLawsBesides
import Derived.Lib.Hide
import Derived.Maps.AppendAt
import Derived.Deep.AppendLies
import Derived.Deep.QuietTactic
import Derived.BigQuiet
import Derived.Deep.RegionHeld3
import Derived.Deep.Draws
import Derived.Lib.AppendStr
namespace Go.Proofs.YtoiilhbjlfdfpaaDoor
set_option linter.unusedVariables false
open Go.RowKit

/-- A byte, as a cell's value. -/
def bv (b : UInt8) : Value := .int .u8 (b.toNat : Int)
/-- An int, as a cell's value. -/
def iv (n : Int) : Value := .int .i64 n
/-- A string of bytes. -/
def str (l : List UInt8) : ByteArray := ⟨l.toArray⟩
/-- A string, as a value. -/
abbrev sv (l : List UInt8) : Value := .string (str l)

/-- The cells xs lie in a row from the address A on, in a block below B; of no cell nothing is asked. -/
def Rd (w : World) (B : Nat) (A : Option Addr) (xs : List Value) : Prop :=
  xs ≠ [] → ∃ b off, A = some ⟨b, off, none⟩ ∧ b < B ∧ ∀ j v, xs[j]? = some v → w.cell? ⟨b, off + j, none⟩ = some v

/-- A draw ahead turns nothing. -/
theorem bdrew {B : Nat} {w a : World} (h : Below B w.drew a) : Below B w a := ⟨h.os, h.tape, h.output, h.size, h.block⟩
/-- Two calls, one behind the other. -/
theorem bt {w a b : World} (h : Below w.heap.size w a) (k : Below a.heap.size a b) : Below w.heap.size w b := h.trans (k.mono h.size)

section
variable {w w' : World} {B B' : Nat} {A : Option Addr} {xs : List Value}
theorem Rd.nil {w : World} {B : Nat} {A : Option Addr} : Rd w B A [] := fun h => absurd rfl h
theorem Rd.keep (h : Rd w B A xs) (hk : ∀ p : Addr, p.block < B → w'.cell? p = w.cell? p) : Rd w' B A xs := fun hn => by
  obtain ⟨b, off, e, hb, hc⟩ := h hn
  exact ⟨b, off, e, hb, fun j v hv => (hk _ hb).trans (hc j v hv)⟩
theorem Rd.more (h : Rd w B A xs) (hB : B ≤ B') : Rd w B' A xs := fun hn => by
  obtain ⟨b, off, e, hb, hc⟩ := h hn
  exact ⟨b, off, e, by omega, hc⟩
theorem Rd.below (h : Rd w B A xs) (hb : Below B w w') : Rd w' B A xs := h.keep fun _ hp => hb.cell hp
theorem Rd.below' (h : Rd w B A xs) {C : Nat} (hb : Below C w w') (hC : B ≤ C) : Rd w' B A xs := h.below (hb.mono hC)
theorem Rd.drew (h : Rd w B A xs) : Rd w.drew B A xs := h
theorem Rd.alloc (h : Rd w B A xs) (hB : B ≤ w.heap.size) (o : Obj) : Rd (w.alloc o) B A xs := h.keep fun p hp => World.cell?_alloc_lt w o p (by omega)
theorem Rd.setCell (h : Rd w B A xs) {p : Addr} (hB : B ≤ p.block) (u : Value) : Rd (w.setCell p u) B A xs :=
  h.keep fun q hq => World.cell?_setCell_other w p q u (fun e => by subst e; omega)
theorem Rd.grown (h : Rd w B A xs) {row : Option Nat} (hg : w.grownBy w' row) (hB : B ≤ w.heap.size) (hr : ∀ g, row = some g → B ≤ g) : Rd w' B A xs :=
  h.keep fun p hp => World.cell?_of_block (hg.block p.block (by omega) (fun e => by have := hr _ e.symm; omega))
theorem Rd.drop (h : Rd w B A xs) (k : Nat) : Rd w B (A.map (·.add k)) (xs.drop k) := fun hn => by
  have hx : xs ≠ [] := fun e => hn (by simp [e])
  obtain ⟨b, off, rfl, hb, hc⟩ := h hx
  by_cases hk : k = 0
  · subst hk
    exact ⟨b, off, by simp [Addr.add], hb, by simpa using hc⟩
  · refine ⟨b, off + k, by simp [Addr.add, hk], hb, fun j v hv => ?_⟩
    rw [Nat.add_assoc]
    exact hc _ v (by rw [← hv, List.getElem?_drop])
theorem Rd.take (h : Rd w B A xs) (k : Nat) : Rd w B A (xs.take k) := fun hn => by
  have hx : xs ≠ [] := fun e => hn (by simp [e])
  obtain ⟨b, off, rfl, hb, hc⟩ := h hx
  refine ⟨b, off, rfl, hb, fun j v hv => hc j v ?_⟩
  rw [List.getElem?_take] at hv
  split at hv
  · exact hv
  · cases hv
theorem Rd.of_own {base : Nat} {e : TypeId} {size n c : Nat} (h : w.ownsRow base e size (.slice A n c) n xs) : Rd w w.heap.size A xs := fun hn => by
  have hl := h.1
  have hn0 : 0 < n := by
    rcases Nat.eq_zero_or_pos n with h0 | h0
    · subst h0; exact absurd (List.eq_nil_of_length_eq_zero (by simpa using hl)) hn
    · exact h0
  obtain ⟨g, cap, hv, _, hlt⟩ := h.form hn0
  have hA : A = some ⟨g, 0, none⟩ := by injection hv
  subst hA
  refine ⟨g, 0, rfl, hlt, fun j v hv => ?_⟩
  have := h.cells (g := g) rfl j v hv
  by_cases hj : j = 0
  · subst hj; simpa [Addr.add] using this
  · simpa [Addr.add, hj] using this
end

/-- A cut of a slice that reads as a list, from i on: it reads as the rest. -/
theorem rd_cut {w : World} {B : Nat} {A : Option Addr} {xs : List Value} {n c i : Nat} (h : Rd w B A xs) (hn : xs.length = n) (hnc : n ≤ c) :
    Rd w B (if c = i then A else A.map (·.add (i * 1))) (xs.drop i) := by
  split
  · rename_i e
    subst e
    have : xs.drop c = [] := List.drop_eq_nil_of_le (by omega)
    rw [this]
    exact Rd.nil
  · rw [Nat.mul_one]
    exact h.drop i

section
variable {P : Program} {ops : Array Oper} {rest : List Oper} {o : Oper} {a : Act} {Q : Exit → Act → World → Prop} {w : World}

theorem run_sizeOf_of (e : TypeId) (sz : Nat) (he : (P.info? e).map (·.size) = some sz) : (sizeOf e).run P w = .ok sz w := by
  obtain ⟨i, hi, rfl⟩ := Option.map_eq_some_iff.1 he
  simp [sizeOf, typeInfo, hi]

/-- x[i:] of a slice of one-cell elements: what comes out reads as the rest of the list. -/
theorem wp_cut_lo {K : Act → World → Prop} (T : TypeId) (x lo : Operand) (ho : o.op = .slice T x (some lo) none none) (e : TypeId) (hu : P.underlying T = some (.slice e)) (he : (P.info? e).map (·.size) = some 1)
    (A : Option Addr) (n c : Nat) (hx : a.eval x = .slice A n c) (k : IntKind) (i : Int) (hlo : a.eval lo = .int k i) (i0 : 0 ≤ i) (i1 : i ≤ n) (hnc : n ≤ c)
    (B : Nat) (xs : List Value) (hr : Rd w B A xs) (hn : xs.length = n)
    (h : ∀ A', Rd w B A' (xs.drop i.toNat) → K (a.put o.dst (.slice A' (n - i.toNat) (c - i.toNat))) w) : o.wp P a w K Q := by
  have hcut := rd_cut (i := i.toNat) hr hn hnc
  have hue : P.elem T = e := by simp [Program.elem, hu]
  have hu' : P.underlying T = some (.slice (P.elem T)) := by rw [hue]; exact hu
  have hr1 := run_slice_l w T A n c hu' k i i0 i1
  rw [hue, run_sizeOf_of e 1 he, Result.andThen_ok] at hr1
  unfold Oper.wp execOp
  simp only [ho, Sem.run_bind, Sem.run_pure, Option.map_some, Option.map_none, hx, hlo, run_sliceAt_slice w T _ _ _ _ hu', hr1, Result.andThen_ok]
  exact h _ hcut

/-- x[:j] of a slice of one-cell elements. -/
theorem wp_cut_hi {K : Act → World → Prop} (T : TypeId) (x hi : Operand) (ho : o.op = .slice T x none (some hi) none) (e : TypeId) (hu : P.underlying T = some (.slice e)) (he : (P.info? e).map (·.size) = some 1)
    (A : Option Addr) (n c : Nat) (hx : a.eval x = .slice A n c) (k : IntKind) (j : Int) (hhi : a.eval hi = .int k j) (j0 : 0 ≤ j) (j1 : j ≤ n) (hnc : n ≤ c)
    (B : Nat) (xs : List Value) (hr : Rd w B A xs)
    (h : ∀ A', Rd w B A' (xs.take j.toNat) → K (a.put o.dst (.slice A' j.toNat c)) w) : o.wp P a w K Q := by
  have hue : P.elem T = e := by simp [Program.elem, hu]
  have hu' : P.underlying T = some (.slice (P.elem T)) := by rw [hue]; exact hu
  have hr1 := run_slice_h w T A n c hu' k j j0 (by omega)
  rw [hue, run_sizeOf_of e 1 he, Result.andThen_ok] at hr1
  unfold Oper.wp execOp
  simp only [ho, Sem.run_bind, Sem.run_pure, Option.map_some, Option.map_none, hx, hhi, run_sliceAt_slice w T _ _ _ _ hu', hr1, Result.andThen_ok]
  refine h _ ?_
  split
  · exact hr.take _
  · have := (hr.take j.toNat).drop 0
    simpa using this

/-- x[i:j] of a slice of one-cell elements. -/
theorem wp_cut_lh {K : Act → World → Prop} (T : TypeId) (x lo hi : Operand) (ho : o.op = .slice T x (some lo) (some hi) none) (e : TypeId) (hu : P.underlying T = some (.slice e)) (he : (P.info? e).map (·.size) = some 1)
    (A : Option Addr) (n c : Nat) (hx : a.eval x = .slice A n c) (kl kh : IntKind) (i j : Int) (hlo : a.eval lo = .int kl i) (hhi : a.eval hi = .int kh j) (i0 : 0 ≤ i) (i1 : i ≤ j) (j1 : j ≤ n) (hnc : n ≤ c)
    (B : Nat) (xs : List Value) (hr : Rd w B A xs) (hn : xs.length = n)
    (h : ∀ A', Rd w B A' ((xs.take j.toNat).drop i.toNat) → K (a.put o.dst (.slice A' (j.toNat - i.toNat) (c - i.toNat))) w) : o.wp P a w K Q := by
  have hue : P.elem T = e := by simp [Program.elem, hu]
  have hu' : P.underlying T = some (.slice (P.elem T)) := by rw [hue]; exact hu
  have hr1 := run_slice_lh w T A n c hu' kl kh i j i0 i1 (by omega)
  rw [hue, run_sizeOf_of e 1 he, Result.andThen_ok] at hr1
  unfold Oper.wp execOp
  simp only [ho, Sem.run_bind, Sem.run_pure, Option.map_some, Option.map_none, hx, hlo, hhi, run_sliceAt_slice w T _ _ _ _ hu', hr1, Result.andThen_ok]
  refine h _ (rd_cut (hr.take j.toNat) (n := j.toNat) ?_ (by omega))
  rw [List.length_take]; omega

theorem wl_of_wp (hgd : o.guard = none) (h : ∀ K : Act → World → Prop, (∀ a w, wpList P ops Q rest a w → K a w) → o.wp P a w K Q) : wpList P ops Q (o :: rest) a w := wpList_plain hgd h

theorem wl_cut_lo (hgd : o.guard = none) (T : TypeId) (x lo : Operand) (ho : o.op = .slice T x (some lo) none none) (e : TypeId) (hu : P.underlying T = some (.slice e)) (he : (P.info? e).map (·.size) = some 1)
    (A : Option Addr) (n c : Nat) (hx : a.eval x = .slice A n c) (k : IntKind) (i : Int) (hlo : a.eval lo = .int k i) (i0 : 0 ≤ i) (i1 : i ≤ n) (hnc : n ≤ c)
    (B : Nat) (xs : List Value) (hr : Rd w B A xs) (hn : xs.length = n)
    (h : ∀ A', Rd w B A' (xs.drop i.toNat) → wpList P ops Q rest (a.put o.dst (.slice A' (n - i.toNat) (c - i.toNat))) w) : wpList P ops Q (o :: rest) a w :=
  wpList_plain hgd fun _ hK => wp_cut_lo T x lo ho e hu he A n c hx k i hlo i0 i1 hnc B xs hr hn fun A' h' => hK _ _ (h A' h')
theorem wl_cut_hi (hgd : o.guard = none) (T : TypeId) (x hi : Operand) (ho : o.op = .slice T x none (some hi) none) (e : TypeId) (hu : P.underlying T = some (.slice e)) (he : (P.info? e).map (·.size) = some 1)
    (A : Option Addr) (n c : Nat) (hx : a.eval x = .slice A n c) (k : IntKind) (j : Int) (hhi : a.eval hi = .int k j) (j0 : 0 ≤ j) (j1 : j ≤ n) (hnc : n ≤ c)
    (B : Nat) (xs : List Value) (hr : Rd w B A xs)
    (h : ∀ A', Rd w B A' (xs.take j.toNat) → wpList P ops Q rest (a.put o.dst (.slice A' j.toNat c)) w) : wpList P ops Q (o :: rest) a w :=
  wpList_plain hgd fun _ hK => wp_cut_hi T x hi ho e hu he A n c hx k j hhi j0 j1 hnc B xs hr fun A' h' => hK _ _ (h A' h')
theorem wl_cut_lh (hgd : o.guard = none) (T : TypeId) (x lo hi : Operand) (ho : o.op = .slice T x (some lo) (some hi) none) (e : TypeId) (hu : P.underlying T = some (.slice e)) (he : (P.info? e).map (·.size) = some 1)
    (A : Option Addr) (n c : Nat) (hx : a.eval x = .slice A n c) (kl kh : IntKind) (i j : Int) (hlo : a.eval lo = .int kl i) (hhi : a.eval hi = .int kh j) (i0 : 0 ≤ i) (i1 : i ≤ j) (j1 : j ≤ n) (hnc : n ≤ c)
    (B : Nat) (xs : List Value) (hr : Rd w B A xs) (hn : xs.length = n)
    (h : ∀ A', Rd w B A' ((xs.take j.toNat).drop i.toNat) → wpList P ops Q rest (a.put o.dst (.slice A' (j.toNat - i.toNat) (c - i.toNat))) w) : wpList P ops Q (o :: rest) a w :=
  wpList_plain hgd fun _ hK => wp_cut_lh T x lo hi ho e hu he A n c hx kl kh i j hlo hhi i0 i1 j1 hnc B xs hr hn fun A' h' => hK _ _ (h A' h')
end

/-- A slice type T, its element type e, the element's cells and bytes. -/
structure ElemT (P : Program) (T e : TypeId) (size bytes : Nat) : Prop where
  und : P.underlying T = some (.slice e)
  info : ∃ i z, P.info? e = some i ∧ i.zero = some z ∧ i.size = size ∧ i.bytes = bytes ∧ z.cells.size = size
  pos : 0 < size
theorem ElemT.mk' {P : Program} {T e : TypeId} {z : Value} {size bytes : Nat} (hu : P.underlying T = some (.slice e)) (h : (P.info? e).map (fun i => (i.zero, i.size, i.bytes)) = some (some z, size, bytes))
    (hz : z.cells.size = size) (hp : 0 < size) : ElemT P T e size bytes := by
  obtain ⟨i, hi, h1, h2, h3⟩ := info_parts h
  exact ⟨hu, ⟨i, z, hi, h1, h2, h3, hz⟩, hp⟩

/-- The row v of n elements xs is the call's own (blocks from B on): may be nil, or may be appended to. -/
abbrev Own (w : World) (B : Nat) (e : TypeId) (size : Nat) (v : Value) (n : Nat) (xs : List Value) : Prop := w.ownsRow B e size v n xs

theorem own_form {w : World} {B : Nat} {e : TypeId} {size : Nat} {v : Value} {n : Nat} {xs : List Value} (h : w.ownsRow B e size v n xs) :
    ∃ A c, v = .slice A n c ∧ n ≤ c ∧ c ≤ maxLen := by
  rcases h.2 with ⟨rfl, rfl⟩ | ⟨g, cap, cur, rfl, _, _, h1, h2, _⟩
  · exact ⟨none, 0, rfl, Nat.le_refl _, Nat.zero_le _⟩
  · exact ⟨_, cap, rfl, h1, h2⟩
theorem own_below {w w' : World} {B : Nat} {e : TypeId} {size : Nat} {v : Value} {n : Nat} {xs : List Value} (h : w.ownsRow B e size v n xs) (hg : w.grownBy w' v.ownBlock) (hB : B ≤ w.heap.size) : Below B w w' :=
  (Below.refl B w).grown hg hB fun k hk => (h.lt k hk).1
theorem own_keep {w w' : World} {B C : Nat} {e : TypeId} {size : Nat} {v : Value} {n : Nat} {xs : List Value} (h : w.ownsRow B e size v n xs) (hb : Below C w w') (hC : w.heap.size ≤ C) : w'.ownsRow B e size v n xs := by
  refine ⟨h.1, ?_⟩
  rcases h.2 with ⟨rfl, rfl⟩ | ⟨g, cap, cur, rfl, h1, h2, h3⟩
  · exact .inl ⟨rfl, rfl⟩
  · refine .inr ⟨g, cap, cur, rfl, h1, ?_, h3⟩
    have hlt : g < w.heap.size := by
      rcases Nat.lt_or_ge g w.heap.size with hlt | hge
      · exact hlt
      · rw [Array.getElem?_eq_none hge] at h2; cases h2
    rw [hb.block g (by omega)]; exact h2
theorem own_drew {w : World} {B : Nat} {e : TypeId} {size : Nat} {v : Value} {n : Nat} {xs : List Value} (h : w.ownsRow B e size v n xs) : w.drew.ownsRow B e size v n xs := h
theorem own_base {w : World} {B B' : Nat} {e : TypeId} {size : Nat} {v : Value} {n : Nat} {xs : List Value} (h : w.ownsRow B e size v n xs) (hB : B' ≤ B) : w.ownsRow B' e size v n xs := by
  refine ⟨h.1, ?_⟩
  rcases h.2 with h0 | ⟨g, cap, cur, rfl, h1, h2⟩
  · exact .inl h0
  · exact .inr ⟨g, cap, cur, rfl, by omega, h2⟩
/-- Two rows of unlike element types: what grows the one leaves the other. -/
theorem own_other {w w' : World} {B1 B2 : Nat} {e1 e2 : TypeId} {s1 s2 : Nat} {v1 v2 : Value} {n1 n2 : Nat} {x1 x2 : List Value} (h1 : w.ownsRow B1 e1 s1 v1 n1 x1) (h2 : w.ownsRow B2 e2 s2 v2 n2 x2) (hne : e1 ≠ e2)
    (hg : w.grownBy w' v1.ownBlock) : w'.ownsRow B2 e2 s2 v2 n2 x2 := by
  refine h2.kept hg ?_
  rcases h2.2 with ⟨rfl, _⟩ | ⟨g2, c2, u2, rfl, _, hh2, _⟩
  · exact .inl rfl
  · right
    intro he
    rcases h1.2 with ⟨rfl, _⟩ | ⟨g1, c1, u1, rfl, _, hh1, _⟩
    · cases he
    · simp only [Value.ownBlock, Option.some.injEq] at he
      rw [he, hh1] at hh2
      injection hh2 with hh2
      injection hh2 with _ hh2
      exact hne hh2
/-- A block just laid reads as its cells. -/
theorem rd_new (w : World) (cs : List Value) (t : TypeId) (fr : Nat × Nat) : Rd (w.alloc (.cells cs.toArray t fr)) (w.heap.size + 1) (some ⟨w.heap.size, 0, none⟩) cs := fun _ => by
  refine ⟨w.heap.size, 0, rfl, by omega, fun j v hv => ?_⟩
  rw [cell_of_row _ _ _ _ _ _ (heap_alloc_new w _)]
  simpa using hv
theorem own_new (w : World) (cs : List Value) (e : TypeId) (size n : Nat) (hl : cs.length = n * size) (hn : n ≤ maxLen) {B : Nat} (hB : B ≤ w.heap.size) :
    (w.alloc (.cells cs.toArray e)).ownsRow B e size (.slice (some ⟨w.heap.size, 0, none⟩) n n) n cs := by
  refine ⟨hl, .inr ⟨w.heap.size, n, _, rfl, hB, heap_alloc_new w _, Nat.le_refl _, hn, by simpa using hl, ?_⟩⟩
  simp [← hl]

theorem maxLen_eq : maxLen = 9223372036854775807 := rfl
/-- append([]byte{}, b...): the state behind the literal. -/
theorem own_empty (w : World) (e : TypeId) (size : Nat) {B : Nat} (hB : B ≤ w.heap.size) : (w.alloc (.cells #[] e)).ownsRow B e size (.slice (some ⟨w.heap.size, 0, none⟩) 0 0) 0 [] :=
  own_new w [] e size 0 (by simp) (by omega) hB
section
variable {P : Program} {ops : Array Oper} {rest : List Oper} {o : Oper} {a : Act} {Q : Exit → Act → World → Prop} {w : World}

theorem run_app_nil (B : Nat) (t ty e : TypeId) (size bytes : Nat) (hT : ElemT P t e size bytes)
    (v : Value) (n : Nat) (xs : List Value) (hown : w.ownsRow B e size v n xs) (c : Nat) : (Builtin.append_ #[t, t] ty #[v, .slice none 0 c]).run P w = .ok v w := by
  obtain ⟨ht, ⟨i, z, hi, hz, h1, h2, h3⟩, hp⟩ := hT
  rcases hown.2 with ⟨rfl, rfl⟩ | ⟨g, cap, cur, rfl, _, _, hnc, _⟩
  · simp [Builtin.append_, run_underlying ht, sizeOf, typeInfo, hi, Builtin.lenOf, Builtin.firstCells]
  · simp [Builtin.append_, run_underlying ht, sizeOf, typeInfo, hi, Builtin.lenOf, Builtin.firstCells, hnc, storeCells]

theorem run_app (B : Nat) (t ty e : TypeId) (size bytes : Nat) (hT : ElemT P t e size bytes)
    (v : Value) (n : Nat) (xs : List Value) (hown : w.ownsRow B e size v n xs)
    (C : Nat) (A : Option Addr) (m c : Nat) (news : List Value) (hr : Rd w C A news) (hl : news.length = m * size) (h1 : ∀ u ∈ news, u.oneCell' = true)
    (h63 : n + m ≤ maxLen) (hbytes : (n + m) * bytes ≤ 140737488355328) (hB : B ≤ w.heap.size) :
    ∃ A' c' w', (Builtin.append_ #[t, t] ty #[v, .slice A m c]).run P w = .ok (.slice A' (n + m) c') w' ∧ w'.ownsRow B e size (.slice A' (n + m) c') (n + m) (xs ++ news) ∧ w.grownBy w' v.ownBlock ∧
      ((Value.slice A' (n + m) c').ownBlock = v.ownBlock ∨ (Value.slice A' (n + m) c').ownBlock = some w.heap.size) ∧ n + m ≤ c' ∧ c' ≤ maxLen := by
  by_cases hm : news = []
  · subst hm
    have hm0 : m = 0 := by
      have := hT.pos
      rcases Nat.eq_zero_or_pos m with h0 | h0
      · exact h0
      · have : 0 < m * size := Nat.mul_pos h0 this
        simp at hl; omega
    subst hm0
    cases A with
    | none =>
      obtain ⟨A', c', rfl, h2, h3⟩ := own_form hown
      exact ⟨A', c', w, run_app_nil B t ty e size bytes hT _ n xs hown c, by simpa using hown, World.grownBy.refl w _, .inl rfl, h2, h3⟩
    | some ad =>
      obtain ⟨ht, ⟨i, z, hi, hz, h4, h5, h6⟩, hp⟩ := hT
      obtain ⟨v', w', hrun, h7, h8, _, h9⟩ := run_append_own_at (P := P) w B t ty e i z size bytes ht hi hz h4 h5 h6 hp v n xs hown ad 0 c [] (by simp) (by simp) (by simp) h63 hbytes hB
      obtain ⟨A', c', rfl, h2, h3⟩ := own_form h7
      exact ⟨A', c', w', hrun, h7, h8, h9, h2, h3⟩
  · obtain ⟨b, off, rfl, hb, hc⟩ := hr hm
    obtain ⟨ht, ⟨i, z, hi, hz, h4, h5, h6⟩, hp⟩ := hT
    obtain ⟨v', w', hrun, h7, h8, _, h9⟩ := run_append_own_at (P := P) w B t ty e i z size bytes ht hi hz h4 h5 h6 hp v n xs hown ⟨b, off, none⟩ m c news hl (fun j u hu => by
      have := hc j u hu
      by_cases hj : j = 0
      · subst hj; simpa [Addr.add] using this
      · simpa [Addr.add, hj] using this) h1 h63 hbytes hB
    obtain ⟨A', c', rfl, h2, h3⟩ := own_form h7
    exact ⟨A', c', w', hrun, h7, h8, h9, h2, h3⟩

/-- append(v, x...): v a row of the call's own, x reads as a list. -/
theorem wp_app {K : Act → World → Prop} (s x : Operand) (t : TypeId) (ho : o.op = .call { callee := .builtin .append, args := #[s, x], argTypes := #[t, t] })
    (B : Nat) (e : TypeId) (size bytes : Nat) (hT : ElemT P t e size bytes)
    (v : Value) (n : Nat) (xs : List Value) (hs : a.eval s = v) (hown : w.ownsRow B e size v n xs)
    (C : Nat) (A : Option Addr) (m c : Nat) (news : List Value) (hx : a.eval x = .slice A m c) (hr : Rd w C A news) (hl : news.length = m * size) (h1 : ∀ u ∈ news, u.oneCell' = true)
    (h63 : n + m ≤ maxLen) (hbytes : (n + m) * bytes ≤ 140737488355328) (hB : B ≤ w.heap.size)
    (h : ∀ A' c' w', w'.ownsRow B e size (.slice A' (n + m) c') (n + m) (xs ++ news) → w.grownBy w' v.ownBlock → ((Value.slice A' (n + m) c').ownBlock = v.ownBlock ∨ (Value.slice A' (n + m) c').ownBlock = some w.heap.size) →
      Below B w w' → n + m ≤ c' → c' ≤ maxLen → K (a.put o.dst (.slice A' (n + m) c')) w') : o.wp P a w K Q := by
  obtain ⟨A', c', w', hrun, h2, h3, h4, h5, h6⟩ := run_app (P := P) (w := w) B t o.type e size bytes hT v n xs hown C A m c news hr hl h1 h63 hbytes hB
  unfold Oper.wp execOp
  simp only [ho, resolve, invoke, builtin, Sem.run_bind, Sem.run_pure, Result.andThen_ok, List.map_toArray, List.map_cons, List.map_nil, hs, hx, hrun]
  exact h A' c' w' h2 h3 h4 (own_below hown h3 hB) h5 h6
theorem wl_app (hgd : o.guard = none) (s x : Operand) (t : TypeId) (ho : o.op = .call { callee := .builtin .append, args := #[s, x], argTypes := #[t, t] })
    (B : Nat) (e : TypeId) (size bytes : Nat) (hT : ElemT P t e size bytes)
    (v : Value) (n : Nat) (xs : List Value) (hs : a.eval s = v) (hown : w.ownsRow B e size v n xs)
    (C : Nat) (A : Option Addr) (m c : Nat) (news : List Value) (hx : a.eval x = .slice A m c) (hr : Rd w C A news) (hl : news.length = m * size) (h1 : ∀ u ∈ news, u.oneCell' = true)
    (h63 : n + m ≤ maxLen) (hbytes : (n + m) * bytes ≤ 140737488355328) (hB : B ≤ w.heap.size)
    (h : ∀ A' c' w', w'.ownsRow B e size (.slice A' (n + m) c') (n + m) (xs ++ news) → w.grownBy w' v.ownBlock → ((Value.slice A' (n + m) c').ownBlock = v.ownBlock ∨ (Value.slice A' (n + m) c').ownBlock = some w.heap.size) →
      Below B w w' → n + m ≤ c' → c' ≤ maxLen → wpList P ops Q rest (a.put o.dst (.slice A' (n + m) c')) w') : wpList P ops Q (o :: rest) a w :=
  wpList_plain hgd fun _ hK => wp_app s x t ho B e size bytes hT v n xs hs hown C A m c news hx hr hl h1 h63 hbytes hB fun A' c' w' g1 g2 g3 g4 g5 g6 => hK _ _ (h A' c' w' g1 g2 g3 g4 g5 g6)

/-- x[i:j] of a slice at a known place, as a run. -/
theorem run_cut (T e : TypeId) (hu : P.underlying T = some (.slice e)) (he : (P.info? e).map (·.size) = some 1) (b off n c i j : Nat) (kl kh : IntKind) (lo hi : Int) (hlo : lo = (i : Int)) (hhi : hi = (j : Int)) (hij : i ≤ j) (hjc : j ≤ c) (hic : i < c) :
    (Instr.sliceAt T (.slice (some ⟨b, off, none⟩) n c) (some (.int kl lo)) (some (.int kh hi)) none).run P w = .ok (.slice (some ⟨b, off + i, none⟩) (j - i) (c - i)) w := by
  subst hlo; subst hhi
  have hue : P.elem T = e := by simp [Program.elem, hu]
  have hu' : P.underlying T = some (.slice (P.elem T)) := by rw [hue]; exact hu
  have hr1 := run_slice_lh w T (some ⟨b, off, none⟩) n c hu' kl kh i j (by omega) (by omega) (by omega)
  rw [hue, run_sizeOf_of e 1 he, Result.andThen_ok] at hr1
  rw [run_sliceAt_slice w T _ _ _ _ hu', hr1]
  simp only [sliced, Int.toNat_natCast]
  rw [if_neg (by omega)]
  by_cases h0 : i = 0
  · subst h0; simp [Addr.add]
  · simp [Addr.add, h0]
theorem str_inj {a b : List UInt8} (h : str a = str b) : a = b := by
  unfold str at h
  injection h with h
  simpa using congrArg Array.toList h
theorem str_toList (l : List UInt8) : (str l).toList = l := by
  rw [ByteArray.toList_eq]; simp [str]
theorem run_eql_str (T : TypeId) (a b : List UInt8) : (binOp .eql T (.string (str a)) (.string (str b))).run P w = .ok (.bool (decide (a = b))) w := by
  rw [binOp_string_eql, str_toList, str_toList, Sem.run_pure]
  congr 2
  by_cases h : a = b <;> simp [h]
/-- string(b), b a slice of bytes that reads as l: as a run. -/
theorem run_str (src dst : TypeId) (e : TypeId) (hu : P.underlying src = some (.slice e)) (he : P.underlying e = some (.int .u8)) (hd : P.underlying dst = some .string)
    (A : Option Addr) (n c : Nat) (B : Nat) (l : List UInt8) (hr : Rd w B A (l.map bv)) (hn : l.length = n) : (convert src dst (.slice A n c)).run P w = .ok (.string (str l)) w := by
  by_cases hl : l = []
  · subst hl
    simp at hn; subst hn
    cases A with
    | none => exact run_convert_bytes_nil w src e hu he 0 c dst hd
    | some ad =>
      rw [run_convert_bytes_string w src dst e _ _ _ hu he hd]
      have := run_bytesToString (P := P) w ad 0 c [] (by simp [loadCells, loadCellsFrom])
      exact this
  · obtain ⟨b, off, rfl, hb, hc⟩ := hr (by simpa using hl)
    have := run_convert_bytes_arg (P := P) w src e hu he b off n c (l.map fun u => (u.toNat : Int)) (by simpa using hn) (fun i hi => by
      have hi' : i < l.length := by omega
      rw [hc i (bv l[i]) (by simp [hi'])]
      simp [bv, hi']) dst hd
    rw [this]
    simp [str, strOfNums, Function.comp_def]
/-- string(b), b a slice of bytes that reads as l. -/
theorem wp_str {K : Act → World → Prop} (src dst : TypeId) (x : Operand) (ho : o.op = .convert src dst x) (e : TypeId) (hu : P.underlying src = some (.slice e)) (he : P.underlying e = some (.int .u8)) (hd : P.underlying dst = some .string)
    (A : Option Addr) (n c : Nat) (hx : a.eval x = .slice A n c) (B : Nat) (l : List UInt8) (hr : Rd w B A (l.map bv)) (hn : l.length = n)
    (h : K (a.put o.dst (sv l)) w) : o.wp P a w K Q := by
  have hrun := run_str (P := P) (w := w) src dst e hu he hd A n c B l hr hn
  unfold Oper.wp execOp
  simp only [ho, Sem.run_bind, Sem.run_pure, hx, hrun, Result.andThen_ok]
  exact h
theorem wl_str (hgd : o.guard = none) (src dst : TypeId) (x : Operand) (ho : o.op = .convert src dst x) (e : TypeId) (hu : P.underlying src = some (.slice e)) (he : P.underlying e = some (.int .u8)) (hd : P.underlying dst = some .string)
    (A : Option Addr) (n c : Nat) (hx : a.eval x = .slice A n c) (B : Nat) (l : List UInt8) (hr : Rd w B A (l.map bv)) (hn : l.length = n)
    (h : wpList P ops Q rest (a.put o.dst (sv l)) w) : wpList P ops Q (o :: rest) a w :=
  wpList_plain hgd fun _ hK => wp_str src dst x ho e hu he hd A n c hx B l hr hn (hK _ _ h)

/-- An operation that runs, in a list of operations; its law is given at the operation. -/
theorem wl_of (hw : Region.wanted o (yielded ops a.tmps) = true) (h : ∀ K : Act → World → Prop, (∀ a w, wpList P ops Q rest a w → K a w) → o.wp P a w K Q) : wpList P ops Q (o :: rest) a w := by
  unfold wpList
  rw [if_pos hw]
  exact .inl (h _ fun _ _ h => h)
/-- The same in a region that draws its order. -/
theorem st_of {K : Act → World → Prop} {E : Prop} (hw : Region.wanted o (yielded ops a.tmps) = true) (h : o.wp P a w K Q) : if Region.wanted o (yielded ops a.tmps) = true then o.wp P a w K Q else E := by
  rw [if_pos hw]; exact h
end
end Go.Proofs.YtoiilhbjlfdfpaaDoor
