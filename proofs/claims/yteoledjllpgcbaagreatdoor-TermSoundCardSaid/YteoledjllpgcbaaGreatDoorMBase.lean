/- MBase: several texts of this claim in one file. No statement of the seat is proved here. -/
import Derived.Test.YteoledjllpgcbaaGreatDoorRows
import Derived.WalkKit
import Derived.WalkSpells
import Derived.WalkLawsBesides
import Derived.Lib.Hide
import Derived.Maps.AppendAt
import Derived.Deep.AppendLies
import Derived.Deep.QuietTactic
import Derived.BigQuiet
import Derived.Deep.RegionHeld3
import Derived.Deep.Draws
import Derived.Lib.AppendStr
import Derived.OwnWalk
import Derived.Laws.BitsAllLaws
import Derived.Laws.BitsLemmas
import Derived.IntWalk
import Derived.Orders
import Derived.Laws.IdiomStrings
import Derived.ProofKit
import Derived.OpenShut
import Derived.ShutString
import Derived.Deep.Slices
import Derived.SliceStrings
namespace Go.Proofs.YteoledjllpgcbaaGreatDoor
set_option maxRecDepth 100000
set_option maxHeartbeats 64000000
set_option linter.unusedVariables false
open Go.RowKit
def bv (b : UInt8) : Value := .int .u8 (b.toNat : Int)
def iv (n : Int) : Value := .int .i64 n
def str (l : List UInt8) : ByteArray := ⟨l.toArray⟩
abbrev sv (l : List UInt8) : Value := .string (str l)
def Rd (w : World) (B : Nat) (A : Option Addr) (xs : List Value) : Prop :=
 xs ≠ [] → ∃ b off, A = some ⟨b, off, none⟩ ∧ b < B ∧ ∀ j v, xs[j]? = some v → w.cell? ⟨b, off + j, none⟩ = some v
theorem bdrew {B : Nat} {w a : World} (h : Below B w.drew a) : Below B w a := ⟨h.os, h.tape, h.output, h.size, h.block⟩
theorem bt {w a b : World} (h : Below w.heap.size w a) (k : Below a.heap.size a b) : Below w.heap.size w b := h.trans (k.mono h.size)
section
variable {w w' : World} {B B' : Nat} {A : Option Addr} {xs : List Value}
theorem Rd.nil {w : World} {B : Nat} {A : Option Addr} : Rd w B A [] := fun h => absurd rfl h
theorem Rd.keep (h : Rd w B A xs) (hk : ∀ p : Addr, p.block < B → w'.cell? p = w.cell? p) : Rd w' B A xs := fun hn => by
 obtain ⟨b, off, e, hb, hc⟩ := h hn
 exact ⟨b, off, e, hb, fun j v hv => (hk _ hb).trans (hc j v hv)⟩
theorem Rd.more (h : Rd w B A xs) (hB : B ≤ B') : Rd w B' A xs := fun hn => by
 obtain ⟨b, off, e, hb, hc⟩ := h hn
 exact ⟨b, off, e, by omega, hc⟩
theorem Rd.below (h : Rd w B A xs) (hb : Below B w w') : Rd w' B A xs := h.keep fun _ hp => hb.cell hp
theorem Rd.below' (h : Rd w B A xs) {C : Nat} (hb : Below C w w') (hC : B ≤ C) : Rd w' B A xs := h.below (hb.mono hC)
theorem Rd.drew (h : Rd w B A xs) : Rd w.drew B A xs := h
theorem Rd.alloc (h : Rd w B A xs) (hB : B ≤ w.heap.size) (o : Obj) : Rd (w.alloc o) B A xs := h.keep fun p hp => World.cell?_alloc_lt w o p (by omega)
theorem Rd.drop (h : Rd w B A xs) (k : Nat) : Rd w B (A.map (·.add k)) (xs.drop k) := fun hn => by
 have hx : xs ≠ [] := fun e => hn (by simp [e])
 obtain ⟨b, off, rfl, hb, hc⟩ := h hx
 by_cases hk : k = 0
 ·
  subst hk
  exact ⟨b, off, by simp [Addr.add], hb, by simpa using hc⟩
 ·
  refine ⟨b, off + k, by simp [Addr.add, hk], hb, fun j v hv => ?_⟩
  rw [Nat.add_assoc]
  exact hc _ v (by rw [← hv, List.getElem?_drop])
theorem Rd.take (h : Rd w B A xs) (k : Nat) : Rd w B A (xs.take k) := fun hn => by
 have hx : xs ≠ [] := fun e => hn (by simp [e])
 obtain ⟨b, off, rfl, hb, hc⟩ := h hx
 refine ⟨b, off, rfl, hb, fun j v hv => hc j v ?_⟩
 rw [List.getElem?_take] at hv
 split at hv
 · exact hv
 · cases hv
theorem Rd.of_own {base : Nat} {e : TypeId} {size n c : Nat} (h : w.ownsRow base e size (.slice A n c) n xs) : Rd w w.heap.size A xs := fun hn => by
 have hl := h.1
 have hn0 : 0 < n := by
  rcases Nat.eq_zero_or_pos n with h0 | h0
  · subst h0; exact absurd (List.eq_nil_of_length_eq_zero (by simpa using hl)) hn
  · exact h0
 obtain ⟨g, cap, hv, _, hlt⟩ := h.form hn0
 have hA : A = some ⟨g, 0, none⟩ := by injection hv
 subst hA
 refine ⟨g, 0, rfl, hlt, fun j v hv => ?_⟩
 have := h.cells (g := g) rfl j v hv
 by_cases hj : j = 0
 · subst hj; simpa [Addr.add] using this
 · simpa [Addr.add, hj] using this
end
theorem rd_cut {w : World} {B : Nat} {A : Option Addr} {xs : List Value} {n c i : Nat} (h : Rd w B A xs) (hn : xs.length = n) (hnc : n ≤ c) :
  Rd w B (if c = i then A else A.map (·.add (i * 1))) (xs.drop i) := by
 split
 ·
  rename_i e
  subst e
  have : xs.drop c = [] := List.drop_eq_nil_of_le (by omega)
  rw [this]
  exact Rd.nil
 ·
  rw [Nat.mul_one]
  exact h.drop i
section
variable {P : Program} {ops : Array Oper} {rest : List Oper} {o : Oper} {a : Act} {Q : Exit → Act → World → Prop} {w : World}
theorem run_sizeOf_of (e : TypeId) (sz : Nat) (he : (P.info? e).map (·.size) = some sz) : (sizeOf e).run P w = .ok sz w := by
 obtain ⟨i, hi, rfl⟩ := Option.map_eq_some_iff.1 he
 simp [sizeOf, typeInfo, hi]
theorem wp_cut_lo {K : Act → World → Prop} (T : TypeId) (x lo : Operand) (ho : o.op = .slice T x (some lo) none none) (e : TypeId) (hu : P.underlying T = some (.slice e)) (he : (P.info? e).map (·.size) = some 1)
  (A : Option Addr) (n c : Nat) (hx : a.eval x = .slice A n c) (k : IntKind) (i : Int) (hlo : a.eval lo = .int k i) (i0 : 0 ≤ i) (i1 : i ≤ n) (hnc : n ≤ c)
  (B : Nat) (xs : List Value) (hr : Rd w B A xs) (hn : xs.length = n)
  (h : ∀ A', Rd w B A' (xs.drop i.toNat) → K (a.put o.dst (.slice A' (n - i.toNat) (c - i.toNat))) w) : o.wp P a w K Q := by
 have hcut := rd_cut (i := i.toNat) hr hn hnc
 have hue : P.elem T = e := by simp [Program.elem, hu]
 have hu' : P.underlying T = some (.slice (P.elem T)) := by rw [hue]; exact hu
 have hr1 := run_slice_l w T A n c hu' k i i0 i1
 rw [hue, run_sizeOf_of e 1 he, Result.andThen_ok] at hr1
 unfold Oper.wp execOp
 simp only [ho, Sem.run_bind, Sem.run_pure, Option.map_some, Option.map_none, hx, hlo, run_sliceAt_slice w T _ _ _ _ hu', hr1, Result.andThen_ok]
 exact h _ hcut
theorem wp_cut_lh {K : Act → World → Prop} (T : TypeId) (x lo hi : Operand) (ho : o.op = .slice T x (some lo) (some hi) none) (e : TypeId) (hu : P.underlying T = some (.slice e)) (he : (P.info? e).map (·.size) = some 1)
  (A : Option Addr) (n c : Nat) (hx : a.eval x = .slice A n c) (kl kh : IntKind) (i j : Int) (hlo : a.eval lo = .int kl i) (hhi : a.eval hi = .int kh j) (i0 : 0 ≤ i) (i1 : i ≤ j) (j1 : j ≤ n) (hnc : n ≤ c)
  (B : Nat) (xs : List Value) (hr : Rd w B A xs) (hn : xs.length = n)
  (h : ∀ A', Rd w B A' ((xs.take j.toNat).drop i.toNat) → K (a.put o.dst (.slice A' (j.toNat - i.toNat) (c - i.toNat))) w) : o.wp P a w K Q := by
 have hue : P.elem T = e := by simp [Program.elem, hu]
 have hu' : P.underlying T = some (.slice (P.elem T)) := by rw [hue]; exact hu
 have hr1 := run_slice_lh w T A n c hu' kl kh i j i0 i1 (by omega)
 rw [hue, run_sizeOf_of e 1 he, Result.andThen_ok] at hr1
 unfold Oper.wp execOp
 simp only [ho, Sem.run_bind, Sem.run_pure, Option.map_some, Option.map_none, hx, hlo, hhi, run_sliceAt_slice w T _ _ _ _ hu', hr1, Result.andThen_ok]
 refine h _ (rd_cut (hr.take j.toNat) (n := j.toNat) ?_ (by omega))
 rw [List.length_take]; omega
theorem wl_of_wp (hgd : o.guard = none) (h : ∀ K : Act → World → Prop, (∀ a w, wpList P ops Q rest a w → K a w) → o.wp P a w K Q) : wpList P ops Q (o :: rest) a w := wpList_plain hgd h
theorem wl_cut_lo (hgd : o.guard = none) (T : TypeId) (x lo : Operand) (ho : o.op = .slice T x (some lo) none none) (e : TypeId) (hu : P.underlying T = some (.slice e)) (he : (P.info? e).map (·.size) = some 1)
  (A : Option Addr) (n c : Nat) (hx : a.eval x = .slice A n c) (k : IntKind) (i : Int) (hlo : a.eval lo = .int k i) (i0 : 0 ≤ i) (i1 : i ≤ n) (hnc : n ≤ c)
  (B : Nat) (xs : List Value) (hr : Rd w B A xs) (hn : xs.length = n)
  (h : ∀ A', Rd w B A' (xs.drop i.toNat) → wpList P ops Q rest (a.put o.dst (.slice A' (n - i.toNat) (c - i.toNat))) w) : wpList P ops Q (o :: rest) a w :=
 wpList_plain hgd fun _ hK => wp_cut_lo T x lo ho e hu he A n c hx k i hlo i0 i1 hnc B xs hr hn fun A' h' => hK _ _ (h A' h')
theorem wl_cut_lh (hgd : o.guard = none) (T : TypeId) (x lo hi : Operand) (ho : o.op = .slice T x (some lo) (some hi) none) (e : TypeId) (hu : P.underlying T = some (.slice e)) (he : (P.info? e).map (·.size) = some 1)
  (A : Option Addr) (n c : Nat) (hx : a.eval x = .slice A n c) (kl kh : IntKind) (i j : Int) (hlo : a.eval lo = .int kl i) (hhi : a.eval hi = .int kh j) (i0 : 0 ≤ i) (i1 : i ≤ j) (j1 : j ≤ n) (hnc : n ≤ c)
  (B : Nat) (xs : List Value) (hr : Rd w B A xs) (hn : xs.length = n)
  (h : ∀ A', Rd w B A' ((xs.take j.toNat).drop i.toNat) → wpList P ops Q rest (a.put o.dst (.slice A' (j.toNat - i.toNat) (c - i.toNat))) w) : wpList P ops Q (o :: rest) a w :=
 wpList_plain hgd fun _ hK => wp_cut_lh T x lo hi ho e hu he A n c hx kl kh i j hlo hhi i0 i1 j1 hnc B xs hr hn fun A' h' => hK _ _ (h A' h')
end
structure ElemT (P : Program) (T e : TypeId) (size bytes : Nat) : Prop where
 und : P.underlying T = some (.slice e)
 info : ∃ i z, P.info? e = some i ∧ i.zero = some z ∧ i.size = size ∧ i.bytes = bytes ∧ z.cells.size = size
 pos : 0 < size
theorem ElemT.mk' {P : Program} {T e : TypeId} {z : Value} {size bytes : Nat} (hu : P.underlying T = some (.slice e)) (h : (P.info? e).map (fun i => (i.zero, i.size, i.bytes)) = some (some z, size, bytes))
  (hz : z.cells.size = size) (hp : 0 < size) : ElemT P T e size bytes := by
 obtain ⟨i, hi, h1, h2, h3⟩ := info_parts h
 exact ⟨hu, ⟨i, z, hi, h1, h2, h3, hz⟩, hp⟩
theorem own_form {w : World} {B : Nat} {e : TypeId} {size : Nat} {v : Value} {n : Nat} {xs : List Value} (h : w.ownsRow B e size v n xs) :
  ∃ A c, v = .slice A n c ∧ n ≤ c ∧ c ≤ maxLen := by
 rcases h.2 with ⟨rfl, rfl⟩ | ⟨g, cap, cur, rfl, _, _, h1, h2, _⟩
 · exact ⟨none, 0, rfl, Nat.le_refl _, Nat.zero_le _⟩
 · exact ⟨_, cap, rfl, h1, h2⟩
theorem own_below {w w' : World} {B : Nat} {e : TypeId} {size : Nat} {v : Value} {n : Nat} {xs : List Value} (h : w.ownsRow B e size v n xs) (hg : w.grownBy w' v.ownBlock) (hB : B ≤ w.heap.size) : Below B w w' :=
 (Below.refl B w).grown hg hB fun k hk => (h.lt k hk).1
theorem own_keep {w w' : World} {B C : Nat} {e : TypeId} {size : Nat} {v : Value} {n : Nat} {xs : List Value} (h : w.ownsRow B e size v n xs) (hb : Below C w w') (hC : w.heap.size ≤ C) : w'.ownsRow B e size v n xs := by
 refine ⟨h.1, ?_⟩
 rcases h.2 with ⟨rfl, rfl⟩ | ⟨g, cap, cur, rfl, h1, h2, h3⟩
 · exact .inl ⟨rfl, rfl⟩
 ·
  refine .inr ⟨g, cap, cur, rfl, h1, ?_, h3⟩
  have hlt : g < w.heap.size := by
   rcases Nat.lt_or_ge g w.heap.size with hlt | hge
   · exact hlt
   · rw [Array.getElem?_eq_none hge] at h2; cases h2
  rw [hb.block g (by omega)]; exact h2
theorem own_base {w : World} {B B' : Nat} {e : TypeId} {size : Nat} {v : Value} {n : Nat} {xs : List Value} (h : w.ownsRow B e size v n xs) (hB : B' ≤ B) : w.ownsRow B' e size v n xs := by
 refine ⟨h.1, ?_⟩
 rcases h.2 with h0 | ⟨g, cap, cur, rfl, h1, h2⟩
 · exact .inl h0
 · exact .inr ⟨g, cap, cur, rfl, by omega, h2⟩
theorem own_other {w w' : World} {B1 B2 : Nat} {e1 e2 : TypeId} {s1 s2 : Nat} {v1 v2 : Value} {n1 n2 : Nat} {x1 x2 : List Value} (h1 : w.ownsRow B1 e1 s1 v1 n1 x1) (h2 : w.ownsRow B2 e2 s2 v2 n2 x2) (hne : e1 ≠ e2)
  (hg : w.grownBy w' v1.ownBlock) : w'.ownsRow B2 e2 s2 v2 n2 x2 := by
 refine h2.kept hg ?_
 rcases h2.2 with ⟨rfl, _⟩ | ⟨g2, c2, u2, rfl, _, hh2, _⟩
 · exact .inl rfl
 ·
  right
  intro he
  rcases h1.2 with ⟨rfl, _⟩ | ⟨g1, c1, u1, rfl, _, hh1, _⟩
  · cases he
  ·
   simp only [Value.ownBlock, Option.some.injEq] at he
   rw [he, hh1] at hh2
   injection hh2 with hh2
   injection hh2 with _ hh2
   exact hne hh2
theorem rd_new (w : World) (cs : List Value) (t : TypeId) (fr : Nat × Nat) : Rd (w.alloc (.cells cs.toArray t fr)) (w.heap.size + 1) (some ⟨w.heap.size, 0, none⟩) cs := fun _ => by
 refine ⟨w.heap.size, 0, rfl, by omega, fun j v hv => ?_⟩
 rw [cell_of_row _ _ _ _ _ _ (heap_alloc_new w _)]
 simpa using hv
theorem own_new (w : World) (cs : List Value) (e : TypeId) (size n : Nat) (hl : cs.length = n * size) (hn : n ≤ maxLen) {B : Nat} (hB : B ≤ w.heap.size) :
  (w.alloc (.cells cs.toArray e)).ownsRow B e size (.slice (some ⟨w.heap.size, 0, none⟩) n n) n cs := by
 refine ⟨hl, .inr ⟨w.heap.size, n, _, rfl, hB, heap_alloc_new w _, Nat.le_refl _, hn, by simpa using hl, ?_⟩⟩
 simp [← hl]
theorem maxLen_eq : maxLen = 9223372036854775807 := rfl
theorem own_empty (w : World) (e : TypeId) (size : Nat) {B : Nat} (hB : B ≤ w.heap.size) : (w.alloc (.cells #[] e)).ownsRow B e size (.slice (some ⟨w.heap.size, 0, none⟩) 0 0) 0 [] :=
 own_new w [] e size 0 (by simp) (by omega) hB
section
variable {P : Program} {ops : Array Oper} {rest : List Oper} {o : Oper} {a : Act} {Q : Exit → Act → World → Prop} {w : World}
theorem run_app_nil (B : Nat) (t ty e : TypeId) (size bytes : Nat) (hT : ElemT P t e size bytes)
  (v : Value) (n : Nat) (xs : List Value) (hown : w.ownsRow B e size v n xs) (c : Nat) : (Builtin.append_ #[t, t] ty #[v, .slice none 0 c]).run P w = .ok v w := by
 obtain ⟨ht, ⟨i, z, hi, hz, h1, h2, h3⟩, hp⟩ := hT
 rcases hown.2 with ⟨rfl, rfl⟩ | ⟨g, cap, cur, rfl, _, _, hnc, _⟩
 · simp [Builtin.append_, run_underlying ht, sizeOf, typeInfo, hi, Builtin.lenOf, Builtin.firstCells]
 · simp [Builtin.append_, run_underlying ht, sizeOf, typeInfo, hi, Builtin.lenOf, Builtin.firstCells, hnc, storeCells]
theorem run_app (B : Nat) (t ty e : TypeId) (size bytes : Nat) (hT : ElemT P t e size bytes)
  (v : Value) (n : Nat) (xs : List Value) (hown : w.ownsRow B e size v n xs)
  (C : Nat) (A : Option Addr) (m c : Nat) (news : List Value) (hr : Rd w C A news) (hl : news.length = m * size) (h1 : ∀ u ∈ news, u.oneCell' = true)
  (h63 : n + m ≤ maxLen) (hbytes : (n + m) * bytes ≤ 140737488355328) (hB : B ≤ w.heap.size) :
  ∃ A' c' w', (Builtin.append_ #[t, t] ty #[v, .slice A m c]).run P w = .ok (.slice A' (n + m) c') w' ∧ w'.ownsRow B e size (.slice A' (n + m) c') (n + m) (xs ++ news) ∧ w.grownBy w' v.ownBlock ∧
   ((Value.slice A' (n + m) c').ownBlock = v.ownBlock ∨ (Value.slice A' (n + m) c').ownBlock = some w.heap.size) ∧ n + m ≤ c' ∧ c' ≤ maxLen := by
 by_cases hm : news = []
 ·
  subst hm
  have hm0 : m = 0 := by
   have := hT.pos
   rcases Nat.eq_zero_or_pos m with h0 | h0
   · exact h0
   ·
    have : 0 < m * size := Nat.mul_pos h0 this
    simp at hl; omega
  subst hm0
  cases A with
  | none =>
   obtain ⟨A', c', rfl, h2, h3⟩ := own_form hown
   exact ⟨A', c', w, run_app_nil B t ty e size bytes hT _ n xs hown c, by simpa using hown, World.grownBy.refl w _, .inl rfl, h2, h3⟩
  | some ad =>
   obtain ⟨ht, ⟨i, z, hi, hz, h4, h5, h6⟩, hp⟩ := hT
   obtain ⟨v', w', hrun, h7, h8, _, h9⟩ := run_append_own_at (P := P) w B t ty e i z size bytes ht hi hz h4 h5 h6 hp v n xs hown ad 0 c [] (by simp) (by simp) (by simp) h63 hbytes hB
   obtain ⟨A', c', rfl, h2, h3⟩ := own_form h7
   exact ⟨A', c', w', hrun, h7, h8, h9, h2, h3⟩
 ·
  obtain ⟨b, off, rfl, hb, hc⟩ := hr hm
  obtain ⟨ht, ⟨i, z, hi, hz, h4, h5, h6⟩, hp⟩ := hT
  obtain ⟨v', w', hrun, h7, h8, _, h9⟩ := run_append_own_at (P := P) w B t ty e i z size bytes ht hi hz h4 h5 h6 hp v n xs hown ⟨b, off, none⟩ m c news hl (fun j u hu => by
   have := hc j u hu
   by_cases hj : j = 0
   · subst hj; simpa [Addr.add] using this
   · simpa [Addr.add, hj] using this) h1 h63 hbytes hB
  obtain ⟨A', c', rfl, h2, h3⟩ := own_form h7
  exact ⟨A', c', w', hrun, h7, h8, h9, h2, h3⟩
theorem wp_app {K : Act → World → Prop} (s x : Operand) (t : TypeId) (ho : o.op = .call { callee := .builtin .append, args := #[s, x], argTypes := #[t, t] })
  (B : Nat) (e : TypeId) (size bytes : Nat) (hT : ElemT P t e size bytes)
  (v : Value) (n : Nat) (xs : List Value) (hs : a.eval s = v) (hown : w.ownsRow B e size v n xs)
  (C : Nat) (A : Option Addr) (m c : Nat) (news : List Value) (hx : a.eval x = .slice A m c) (hr : Rd w C A news) (hl : news.length = m * size) (h1 : ∀ u ∈ news, u.oneCell' = true)
  (h63 : n + m ≤ maxLen) (hbytes : (n + m) * bytes ≤ 140737488355328) (hB : B ≤ w.heap.size)
  (h : ∀ A' c' w', w'.ownsRow B e size (.slice A' (n + m) c') (n + m) (xs ++ news) → w.grownBy w' v.ownBlock → ((Value.slice A' (n + m) c').ownBlock = v.ownBlock ∨ (Value.slice A' (n + m) c').ownBlock = some w.heap.size) →
   Below B w w' → n + m ≤ c' → c' ≤ maxLen → K (a.put o.dst (.slice A' (n + m) c')) w') : o.wp P a w K Q := by
 obtain ⟨A', c', w', hrun, h2, h3, h4, h5, h6⟩ := run_app (P := P) (w := w) B t o.type e size bytes hT v n xs hown C A m c news hr hl h1 h63 hbytes hB
 unfold Oper.wp execOp
 simp only [ho, resolve, invoke, builtin, Sem.run_bind, Sem.run_pure, Result.andThen_ok, List.map_toArray, List.map_cons, List.map_nil, hs, hx, hrun]
 exact h A' c' w' h2 h3 h4 (own_below hown h3 hB) h5 h6
theorem wl_app (hgd : o.guard = none) (s x : Operand) (t : TypeId) (ho : o.op = .call { callee := .builtin .append, args := #[s, x], argTypes := #[t, t] })
  (B : Nat) (e : TypeId) (size bytes : Nat) (hT : ElemT P t e size bytes)
  (v : Value) (n : Nat) (xs : List Value) (hs : a.eval s = v) (hown : w.ownsRow B e size v n xs)
  (C : Nat) (A : Option Addr) (m c : Nat) (news : List Value) (hx : a.eval x = .slice A m c) (hr : Rd w C A news) (hl : news.length = m * size) (h1 : ∀ u ∈ news, u.oneCell' = true)
  (h63 : n + m ≤ maxLen) (hbytes : (n + m) * bytes ≤ 140737488355328) (hB : B ≤ w.heap.size)
  (h : ∀ A' c' w', w'.ownsRow B e size (.slice A' (n + m) c') (n + m) (xs ++ news) → w.grownBy w' v.ownBlock → ((Value.slice A' (n + m) c').ownBlock = v.ownBlock ∨ (Value.slice A' (n + m) c').ownBlock = some w.heap.size) →
   Below B w w' → n + m ≤ c' → c' ≤ maxLen → wpList P ops Q rest (a.put o.dst (.slice A' (n + m) c')) w') : wpList P ops Q (o :: rest) a w :=
 wpList_plain hgd fun _ hK => wp_app s x t ho B e size bytes hT v n xs hs hown C A m c news hx hr hl h1 h63 hbytes hB fun A' c' w' g1 g2 g3 g4 g5 g6 => hK _ _ (h A' c' w' g1 g2 g3 g4 g5 g6)
theorem run_cut (T e : TypeId) (hu : P.underlying T = some (.slice e)) (he : (P.info? e).map (·.size) = some 1) (b off n c i j : Nat) (kl kh : IntKind) (lo hi : Int) (hlo : lo = (i : Int)) (hhi : hi = (j : Int)) (hij : i ≤ j) (hjc : j ≤ c) (hic : i < c) :
  (Instr.sliceAt T (.slice (some ⟨b, off, none⟩) n c) (some (.int kl lo)) (some (.int kh hi)) none).run P w = .ok (.slice (some ⟨b, off + i, none⟩) (j - i) (c - i)) w := by
 subst hlo; subst hhi
 have hue : P.elem T = e := by simp [Program.elem, hu]
 have hu' : P.underlying T = some (.slice (P.elem T)) := by rw [hue]; exact hu
 have hr1 := run_slice_lh w T (some ⟨b, off, none⟩) n c hu' kl kh i j (by omega) (by omega) (by omega)
 rw [hue, run_sizeOf_of e 1 he, Result.andThen_ok] at hr1
 rw [run_sliceAt_slice w T _ _ _ _ hu', hr1]
 simp only [sliced, Int.toNat_natCast]
 rw [if_neg (by omega)]
 by_cases h0 : i = 0
 · subst h0; simp [Addr.add]
 · simp [Addr.add, h0]
theorem str_toList (l : List UInt8) : (str l).toList = l := by
 rw [ByteArray.toList_eq]; simp [str]
theorem run_eql_str (T : TypeId) (a b : List UInt8) : (binOp .eql T (.string (str a)) (.string (str b))).run P w = .ok (.bool (decide (a = b))) w := by
 rw [binOp_string_eql, str_toList, str_toList, Sem.run_pure]
 congr 2
 by_cases h : a = b <;> simp [h]
theorem run_str (src dst : TypeId) (e : TypeId) (hu : P.underlying src = some (.slice e)) (he : P.underlying e = some (.int .u8)) (hd : P.underlying dst = some .string)
  (A : Option Addr) (n c : Nat) (B : Nat) (l : List UInt8) (hr : Rd w B A (l.map bv)) (hn : l.length = n) : (convert src dst (.slice A n c)).run P w = .ok (.string (str l)) w := by
 by_cases hl : l = []
 ·
  subst hl
  simp at hn; subst hn
  cases A with
  | none => exact run_convert_bytes_nil w src e hu he 0 c dst hd
  | some ad =>
   rw [run_convert_bytes_string w src dst e _ _ _ hu he hd]
   have := run_bytesToString (P := P) w ad 0 c [] (by simp [loadCells, loadCellsFrom])
   exact this
 ·
  obtain ⟨b, off, rfl, hb, hc⟩ := hr (by simpa using hl)
  have := run_convert_bytes_arg (P := P) w src e hu he b off n c (l.map fun u => (u.toNat : Int)) (by simpa using hn) (fun i hi => by
   have hi' : i < l.length := by omega
   rw [hc i (bv l[i]) (by simp [hi'])]
   simp [bv, hi']) dst hd
  rw [this]
  simp [str, strOfNums, Function.comp_def]
theorem wp_str {K : Act → World → Prop} (src dst : TypeId) (x : Operand) (ho : o.op = .convert src dst x) (e : TypeId) (hu : P.underlying src = some (.slice e)) (he : P.underlying e = some (.int .u8)) (hd : P.underlying dst = some .string)
  (A : Option Addr) (n c : Nat) (hx : a.eval x = .slice A n c) (B : Nat) (l : List UInt8) (hr : Rd w B A (l.map bv)) (hn : l.length = n)
  (h : K (a.put o.dst (sv l)) w) : o.wp P a w K Q := by
 have hrun := run_str (P := P) (w := w) src dst e hu he hd A n c B l hr hn
 unfold Oper.wp execOp
 simp only [ho, Sem.run_bind, Sem.run_pure, hx, hrun, Result.andThen_ok]
 exact h
theorem wl_str (hgd : o.guard = none) (src dst : TypeId) (x : Operand) (ho : o.op = .convert src dst x) (e : TypeId) (hu : P.underlying src = some (.slice e)) (he : P.underlying e = some (.int .u8)) (hd : P.underlying dst = some .string)
  (A : Option Addr) (n c : Nat) (hx : a.eval x = .slice A n c) (B : Nat) (l : List UInt8) (hr : Rd w B A (l.map bv)) (hn : l.length = n)
  (h : wpList P ops Q rest (a.put o.dst (sv l)) w) : wpList P ops Q (o :: rest) a w :=
 wpList_plain hgd fun _ hK => wp_str src dst x ho e hu he hd A n c hx B l hr hn (hK _ _ h)
theorem wl_of (hw : Region.wanted o (yielded ops a.tmps) = true) (h : ∀ K : Act → World → Prop, (∀ a w, wpList P ops Q rest a w → K a w) → o.wp P a w K Q) : wpList P ops Q (o :: rest) a w := by
 unfold wpList
 rw [if_pos hw]
 exact .inl (h _ fun _ _ h => h)
theorem st_of {K : Act → World → Prop} {E : Prop} (hw : Region.wanted o (yielded ops a.tmps) = true) (h : o.wp P a w K Q) : if Region.wanted o (yielded ops a.tmps) = true then o.wp P a w K Q else E := by
 rw [if_pos hw]; exact h
end
theorem info_u8 : (Tryz.prog.info? 5).map (fun i => (i.zero, i.size, i.bytes)) = some (some (.int .u8 0), 1, 1) := by kernel_rfl
theorem size_u8 : (Tryz.prog.info? 5).map (·.size) = some 1 := by kernel_rfl
theorem bytesT : ElemT Tryz.prog 28 5 1 1 := ElemT.mk' Tryz.underlying28 info_u8 rfl (by omega)
def Row (w : World) (b : Nat) (cs : Array Value) (t : TypeId) : Prop := w.heap[b]? = some (.cells cs t (0, 0))
section
variable {w w' : World} {b B : Nat} {cs : Array Value} {t : TypeId}
theorem Row.cell (h : Row w b cs t) (j : Nat) (hj : j < cs.size) : w.cell? ⟨b, j, none⟩ = some cs[j] := by
 unfold Row at h
 simp [World.cell?, h, hj]
theorem Row.cellQ (h : Row w b cs t) (j : Nat) (v : Value) (hj : cs[j]? = some v) : w.cell? ⟨b, j, none⟩ = some v := by
 unfold Row at h
 simp [World.cell?, h, hj]
theorem Row.frozen (h : Row w b cs t) (j : Nat) : w.frozen? ⟨b, j, none⟩ = false := by
 unfold Row at h
 simp [World.frozen?, h]
theorem Row.lt (h : Row w b cs t) : b < w.heap.size := by
 rcases Nat.lt_or_ge b w.heap.size with hlt | hge
 · exact hlt
 ·
  unfold Row at h
  rw [Array.getElem?_eq_none hge] at h; cases h
theorem Row.below (h : Row w b cs t) (hb : Below B w w') (hB : b < B) : Row w' b cs t := by
 unfold Row at *
 rw [hb.block b hB]; exact h
theorem Row.belowS (h : Row w b cs t) (hb : Below B w w') (hB : w.heap.size ≤ B) : Row w' b cs t := h.below hb (Nat.lt_of_lt_of_le h.lt hB)
theorem Row.set (h : Row w b cs t) (j : Nat) (u : Value) : Row (w.setCell ⟨b, j, none⟩ u) b (cs.setIfInBounds j u) t := by
 unfold Row at *
 simp [World.setCell, Array.getElem?_modify, h]
theorem Row.far (h : Row w b cs t) (c j : Nat) (u : Value) (hc : b ≠ c) : Row (w.setCell ⟨c, j, none⟩ u) b cs t := by
 unfold Row at *
 rw [Below.heap_setCell _ _ _ _ hc]; exact h
theorem Row.drew (h : Row w b cs t) : Row w.drew b cs t := h
theorem Row.alloc (h : Row w b cs t) (o : Obj) : Row (w.alloc o) b cs t := by
 unfold Row at *
 rw [Below.heap_alloc _ _ _ (Row.lt h)]; exact h
end
theorem row_new (w : World) (cs : Array Value) (t : TypeId) : Row (w.alloc (.cells cs t)) w.heap.size cs t := by
 show (w.heap.push _)[w.heap.size]? = _
 simp
theorem wrap_id (x : Int) (h0 : -9223372036854775808 ≤ x) (h1 : x < 9223372036854775808) : IntKind.i64.wrap x = x := by
 rw [IntKind.wrap_i64]; omega
theorem own_nil (w : World) (B : Nat) (e : TypeId) (size : Nat) : w.ownsRow B e size (.slice none 0 0) 0 [] := ⟨by simp, .inl ⟨rfl, rfl⟩⟩
def setFrom (b : Nat) : World → Nat → List Value → World
 | w, _, [] => w
 | w, k, v :: vs => setFrom b (w.setCell ⟨b, k, none⟩ v) (k + 1) vs
def arrSet : Array Value → Nat → List Value → Array Value
 | a, _, [] => a
 | a, k, v :: vs => arrSet (a.setIfInBounds k v) (k + 1) vs
theorem Row.setFrom_at {b : Nat} {t : TypeId} : ∀ (vs : List Value) {w : World} {cs : Array Value} (k : Nat), Row w b cs t → Row (setFrom b w k vs) b (arrSet cs k vs) t
 | [], _, _, _, h => h
 | v :: vs, _, _, k, h => Row.setFrom_at vs (k + 1) (h.set k v)
theorem arrSet_get : ∀ (vs : List Value) (a : Array Value) (k j : Nat), k + vs.length ≤ a.size → (arrSet a k vs).size = a.size ∧ (arrSet a k vs)[j]? = if k ≤ j ∧ j < k + vs.length then vs[j - k]? else a[j]?
 | [], a, k, j, h => ⟨rfl, by rw [if_neg (by simp)]; rfl⟩
 | v :: vs, a, k, j, h => by
  simp only [List.length_cons] at h
  obtain ⟨h1, h2⟩ := arrSet_get vs (a.setIfInBounds k v) (k + 1) j (by simp; omega)
  refine ⟨by rw [arrSet, h1]; simp, ?_⟩
  rw [arrSet, h2]
  by_cases e : j = k
  ·
   subst e
   rw [if_neg (by omega), if_pos (by simp)]
   simp [show j < a.size by omega]
  ·
   by_cases h3 : k ≤ j ∧ j < k + (vs.length + 1)
   ·
    rw [if_pos (by omega), if_pos (by simpa using h3)]
    obtain ⟨q, hq⟩ : ∃ q, j - k = q + 1 := ⟨j - k - 1, by omega⟩
    rw [hq, List.getElem?_cons_succ]
    congr 1; omega
   ·
    rw [if_neg (by omega), if_neg (by simpa using h3)]
    rw [Array.getElem?_setIfInBounds, if_neg (fun e' => e e'.symm)]
theorem arrSet_all (vs : List Value) (a : Array Value) (h : a.size = vs.length) : arrSet a 0 vs = vs.toArray := by
 apply Array.ext_getElem?
 intro j
 obtain ⟨h1, h2⟩ := arrSet_get vs a 0 j (by omega)
 rw [h2]
 by_cases hj : j < vs.length
 · rw [if_pos (by omega)]; simp
 · rw [if_neg (by omega), Array.getElem?_eq_none (by omega), Array.getElem?_eq_none (by simpa using Nat.le_of_not_lt hj)]
theorem Row.all {w : World} {b : Nat} {cs : Array Value} {t : TypeId} (h : Row w b cs t) (vs : List Value) (hl : cs.size = vs.length) : Row (setFrom b w 0 vs) b vs.toArray t := by
 have := h.setFrom_at vs 0
 rw [arrSet_all vs cs hl] at this
 exact this
theorem below_setFrom {B : Nat} {v : World} {b : Nat} (hB : B ≤ b) : ∀ (vs : List Value) {w : World} (k : Nat), Below B v w → Below B v (setFrom b w k vs)
 | [], _, _, h => h
 | _ :: vs, _, k, h => below_setFrom hB vs (k + 1) (h.setCell hB _)
theorem size_setFrom (b : Nat) : ∀ (vs : List Value) (w : World) (k : Nat), (setFrom b w k vs).heap.size = w.heap.size
 | [], _, _ => rfl
 | v :: vs, w, k => by rw [setFrom, size_setFrom b vs, World.size_setCell]
theorem Row.far_setFrom {b c : Nat} {cs : Array Value} {t : TypeId} (hc : b ≠ c) : ∀ (vs : List Value) {w : World} (k : Nat), Row w b cs t → Row (setFrom c w k vs) b cs t
 | [], _, _, h => h
 | v :: vs, _, k, h => Row.far_setFrom hc vs (k + 1) (h.far c k v hc)
theorem heap_setFrom {b g : Nat} (hg : g ≠ b) : ∀ (vs : List Value) (w : World) (k : Nat), (setFrom b w k vs).heap[g]? = w.heap[g]?
 | [], _, _ => rfl
 | v :: vs, w, k => by rw [setFrom, heap_setFrom hg vs, Below.heap_setCell _ _ _ _ hg]
theorem own_setFrom {w : World} {B : Nat} {e : TypeId} {size : Nat} {v : Value} {n : Nat} {xs : List Value} (h : w.ownsRow B e size v n xs) {b : Nat} (hb : b < B) (vs : List Value) (k : Nat) : (setFrom b w k vs).ownsRow B e size v n xs := by
 refine ⟨h.1, ?_⟩
 rcases h.2 with ⟨rfl, rfl⟩ | ⟨g, cap, cur, rfl, h1, h2, h3⟩
 · exact .inl ⟨rfl, rfl⟩
 ·
  refine .inr ⟨g, cap, cur, rfl, h1, ?_, h3⟩
  rw [heap_setFrom (by omega)]; exact h2
section
variable {P : Program} {ops : Array Oper} {rest : List Oper} {o : Oper} {a : Act} {Q : Exit → Act → World → Prop} {w : World}
theorem wl_make (hg : o.guard = none) (l c : Operand) (t : TypeId) (hop : o.op = Op.makeSlice t l c)
  (base : Nat) (e : TypeId) (size bytes : Nat) (hT : ElemT P t e size bytes)
  (kl kc : IntKind) (C : Int) (n : Nat) (hl : a.eval l = .int kl 0) (hc : a.eval c = .int kc C) (hC : C = (n : Int)) (b2 : bytes * n ≤ 281474976710656) (b3 : n ≤ maxLen) (b4 : base ≤ w.heap.size)
  (hK : ∀ w', w'.ownsRow base e size (.slice (some ⟨w.heap.size, 0, none⟩) 0 n) 0 [] → Below w.heap.size w w' → wpList P ops Q rest (a.put o.dst (.slice (some ⟨w.heap.size, 0, none⟩) 0 n)) w') :
  wpList P ops Q (o :: rest) a w := by
 obtain ⟨ht, ⟨i, z, hi, hz, h1, h2, h3⟩, hp⟩ := hT
 exact wpList_make_own w hg l c t hop base e i z size ht hi hz h1 kl kc C n hl hc hC (by rw [h2]; exact b2) b3 b4 fun w' h4 h5 => hK w' h4 (Below.grown (Below.refl _ _) h5 (Nat.le_refl _) (fun k hk => by cases hk))
theorem wl_index (hgd : o.guard = none) (T : TypeId) (x y : Operand) (ho : o.op = .index T x y) (cs : Array Value) (i : Int) (v : Value) (hx : a.eval x = .agg cs) (hy : a.eval y = .int .i64 i)
  (hr : (Instr.index T (.agg cs) (.int .i64 i)).run P w = .ok v w) (h : wpList P ops Q rest (a.put o.dst v) w) : wpList P ops Q (o :: rest) a w := by
 refine wpList_plain hgd fun K hK => ?_
 unfold Oper.wp execOp
 simp only [ho, Sem.run_bind, Sem.run_pure, hx, hy, hr, Result.andThen_ok]
 exact hK _ _ h
end
end Go.Proofs.YteoledjllpgcbaaGreatDoor
namespace Go.Proofs.YteoledjllpgcbaaGreatDoor.Bit
set_option maxRecDepth 100000
set_option maxHeartbeats 64000000
set_option linter.unusedVariables false
open Go
theorem i64n (a : Nat) (ha : a < 9223372036854775808) : (BitVec.ofInt 64 (a : Int)).toNat = a := by
 rw [BitVec.ofInt_natCast, BitVec.toNat_ofNat]; exact Nat.mod_eq_of_lt (by omega)
theorem i64_and (a b : Nat) (ha : a < 9223372036854775808) (hb : b < 9223372036854775808) : bits .and .i64 (a : Int) (b : Int) = ((a &&& b : Nat) : Int) := by
 have hx : a &&& b < 2 ^ 63 := Nat.and_lt_two_pow _ (by omega)
 show IntKind.i64.wrap ((BitVec.ofInt 64 (a : Int) &&& BitVec.ofInt 64 (b : Int)).toNat : Int) = _
 rw [BitVec.toNat_and, i64n a ha, i64n b hb, IntKind.wrap_i64]
 omega
theorem i64_or (a b : Nat) (ha : a < 9223372036854775808) (hb : b < 9223372036854775808) : bits .or .i64 (a : Int) (b : Int) = ((a ||| b : Nat) : Int) := by
 have hx : a ||| b < 2 ^ 63 := Nat.or_lt_two_pow (by omega) (by omega)
 show IntKind.i64.wrap ((BitVec.ofInt 64 (a : Int) ||| BitVec.ofInt 64 (b : Int)).toNat : Int) = _
 rw [BitVec.toNat_or, i64n a ha, i64n b hb, IntKind.wrap_i64]
 omega
theorem mask (k : Nat) (x m r : Int) (h0 : 0 ≤ x) (h1 : x < 9223372036854775808) (hk : k < 63) (hm : m = 2 ^ k - 1) (hr : r = 2 ^ k) : bits .and .i64 x m = x % r := by
 obtain ⟨n, rfl⟩ := Int.eq_ofNat_of_zero_le h0
 have hp : 0 < 2 ^ k := Nat.pow_pos (by omega)
 have hlt : 2 ^ k < 2 ^ 63 := Nat.pow_lt_pow_right (by omega) hk
 have e : m = ((2 ^ k - 1 : Nat) : Int) := by rw [hm, Int.ofNat_sub hp]; simp
 have e2 : r = ((2 ^ k : Nat) : Int) := by rw [hr]; simp
 rw [e, i64_and n _ (by omega) (by omega), Nat.and_two_pow_sub_one_eq_mod, e2]
 simp
theorem mask8 (k : Nat) (x m r : Int) (h0 : 0 ≤ x) (h1 : x < 256) (hk : k < 8) (hm : m = 2 ^ k - 1) (hr : r = 2 ^ k) : bits .and .u8 x m = x % r := by
 obtain ⟨n, rfl⟩ := Int.eq_ofNat_of_zero_le h0
 have hp : 0 < 2 ^ k := Nat.pow_pos (by omega)
 have hlt : 2 ^ k < 2 ^ 8 := Nat.pow_lt_pow_right (by omega) hk
 have e : m = ((2 ^ k - 1 : Nat) : Int) := by rw [hm, Int.ofNat_sub hp]; simp
 have e2 : r = ((2 ^ k : Nat) : Int) := by rw [hr]; simp
 rw [e, u8_and_nat n _ (by omega) (by omega), Nat.and_two_pow_sub_one_eq_mod, e2]
 simp
theorem join (k : Nat) (x y r : Int) (hr : r = 2 ^ k) (h0 : 0 ≤ x) (h1 : x < 9223372036854775808) (hx : x % r = 0) (hy0 : 0 ≤ y) (hy : y < r) (hk : k < 63) : bits .or .i64 x y = x + y := by
 obtain ⟨n, rfl⟩ := Int.eq_ofNat_of_zero_le h0
 obtain ⟨p, rfl⟩ := Int.eq_ofNat_of_zero_le hy0
 have hlt : 2 ^ k < 2 ^ 63 := Nat.pow_lt_pow_right (by omega) hk
 have e2 : r = ((2 ^ k : Nat) : Int) := by rw [hr]; simp
 rw [e2] at hx hy
 rw [i64_or n p (by omega) (by omega), nat_join k n p (by omega) (by omega)]
 simp
theorem join8 (k : Nat) (x y r : Int) (hr : r = 2 ^ k) (h0 : 0 ≤ x) (h1 : x < 256) (hx : x % r = 0) (hy0 : 0 ≤ y) (hy : y < r) (hk : k ≤ 8) : bits .or .u8 x y = x + y := by
 obtain ⟨n, rfl⟩ := Int.eq_ofNat_of_zero_le h0
 obtain ⟨p, rfl⟩ := Int.eq_ofNat_of_zero_le hy0
 have hlt : 2 ^ k ≤ 2 ^ 8 := Nat.pow_le_pow_right (by omega) hk
 have e2 : r = ((2 ^ k : Nat) : Int) := by rw [hr]; simp
 rw [e2] at hx hy
 rw [u8_or_nat n p (by omega) (by omega), nat_join k n p (by omega) (by omega)]
 simp
theorem toNat_u8 (n : Int) (h0 : 0 ≤ n) (h1 : n < 256) : ((UInt8.ofNat n.toNat).toNat : Int) = n := by
 rw [UInt8.toNat_ofNat']
 omega
end Go.Proofs.YteoledjllpgcbaaGreatDoor.Bit
namespace Go.Proofs.YteoledjllpgcbaaGreatDoor
set_option maxRecDepth 100000
set_option maxHeartbeats 64000000
set_option linter.unusedVariables false
open Go.RowKit
namespace Free
def bits (o : Oper) (acc : List Nat) : Nat := o.after.toList.foldl (fun s e => if Region.binds .any e then s ||| 2 ^ e.on ||| acc.getD e.on 0 else s) 0
def cloFrom : List Oper → List Nat → List Nat
 | [], acc => acc
 | o :: rest, acc => cloFrom rest (acc ++ [bits o acc])
def clo (ops : Array Oper) : List Nat := cloFrom ops.toList []
def pre (ops : Array Oper) (i j : Nat) : Bool := ((clo ops).getD i 0).testBit j
def dstOf (ops : Array Oper) (i : Nat) : Option Tmp := (ops[i]?).bind (·.dst)
def lastW (ops : Array Oper) (S : Nat → Bool) (t : Nat) : Nat → Option Nat
 | 0 => none
 | i + 1 => if dstOf ops i = some t ∧ S i = true then some i else lastW ops S t i
def namesOf (ops : Array Oper) (i : Nat) : List Tmp := match ops[i]? with | some o => o.dst.toList ++ o.looksAt ops | none => []
def isSelect : Op → Bool | .select .. => true | _ => false
def okAt (ops : Array Oper) (size : Nat) (n0 : Nat) (i : Nat) : Bool :=
 ((namesOf ops i).all fun t => decide (t < size) && (List.range ops.size).all fun j => j == i || dstOf ops j != some t || (if j < i then pre ops i j else pre ops j i)) &&
 (match ops[i]? with | some o => !isSelect o.op && o.after.toList.all (fun e => !Region.binds .any e || decide (e.on < i)) | none => true) &&
 (decide (i < n0) || (List.range i).all fun j => pre ops i j)
def ok (ops : Array Oper) (size : Nat) (n0 : Nat) : Bool := (List.range ops.size).all fun i => okAt ops size n0 i
theorem bits_spec (o : Oper) (acc : List Nat) (j : Nat) (h : (bits o acc).testBit j = true) : ∃ e ∈ o.after, Region.binds .any e = true ∧ (e.on = j ∨ (acc.getD e.on 0).testBit j = true) := by
 have key : ∀ (l : List Edge) (s : Nat), (l.foldl (fun s e => if Region.binds .any e then s ||| 2 ^ e.on ||| acc.getD e.on 0 else s) s).testBit j = true →
   s.testBit j = true ∨ ∃ e ∈ l, Region.binds .any e = true ∧ (e.on = j ∨ (acc.getD e.on 0).testBit j = true) := by
  intro l
  induction l with
  | nil => intro s h; exact .inl h
  | cons e l ih =>
   intro s h
   rw [List.foldl_cons] at h
   rcases ih _ h with h1 | ⟨e', h1, h2⟩
   ·
    by_cases hb : Region.binds .any e = true
    ·
     rw [if_pos hb, Nat.testBit_or, Nat.testBit_or, Bool.or_eq_true, Bool.or_eq_true] at h1
     rcases h1 with (h1 | h1) | h1
     · exact .inl h1
     ·
      right
      refine ⟨e, by simp, hb, .inl ?_⟩
      rw [Nat.testBit_two_pow] at h1
      simpa using h1
     · exact .inr ⟨e, by simp, hb, .inr h1⟩
    ·
     rw [if_neg hb] at h1
     exact .inl h1
   · exact .inr ⟨e', by simp [h1], h2⟩
 rcases key _ _ h with h1 | ⟨e, h1, h2⟩
 · simp at h1
 · exact ⟨e, by simpa using h1, h2⟩
theorem cloFrom_old : ∀ (l : List Oper) (acc : List Nat) (i : Nat), i < acc.length → (cloFrom l acc).getD i 0 = acc.getD i 0
 | [], acc, i, _ => rfl
 | o :: l, acc, i, h => by
  rw [cloFrom, cloFrom_old l _ i (by simp; omega)]
  simp [List.getD, List.getElem?_append_left h]
theorem cloFrom_new : ∀ (l : List Oper) (acc : List Nat) (k : Nat) (o : Oper), l[k]? = some o → ∃ acc', (∀ i, i < acc'.length → acc'.getD i 0 = (cloFrom l acc).getD i 0) ∧ acc'.length = acc.length + k ∧ (cloFrom l acc).getD (acc.length + k) 0 = bits o acc'
 | [], acc, k, o, h => by simp at h
 | o' :: l, acc, 0, o, h => by
  simp at h
  subst h
  refine ⟨acc, fun i hi => (cloFrom_old _ _ _ hi).symm, rfl, ?_⟩
  rw [cloFrom, Nat.add_zero, cloFrom_old l _ _ (by simp)]
  simp [List.getD]
 | o' :: l, acc, k + 1, o, h => by
  obtain ⟨acc', h1, h2, h3⟩ := cloFrom_new l (acc ++ [bits o' acc]) k o (by simpa using h)
  refine ⟨acc', h1, by rw [h2]; simp; omega, ?_⟩
  rw [cloFrom, ← h3]
  congr 1
  simp; omega
theorem pre_spec {ops : Array Oper} {i j : Nat} {o : Oper} (ho : ops[i]? = some o) (hlt : ∀ e ∈ o.after, Region.binds .any e = true → e.on < i) (h : pre ops i j = true) :
  ∃ e ∈ o.after, Region.binds .any e = true ∧ (e.on = j ∨ pre ops e.on j = true) := by
 unfold pre clo at *
 obtain ⟨acc', h1, h2, h3⟩ := cloFrom_new ops.toList [] i o (by simpa using ho)
 simp only [List.length_nil, Nat.zero_add] at h2 h3
 rw [h3] at h
 obtain ⟨e, he, hb, h4⟩ := bits_spec o acc' j h
 refine ⟨e, he, hb, ?_⟩
 rcases h4 with h4 | h4
 · exact .inl h4
 ·
  right
  rw [← h1 _ (by rw [h2]; exact hlt e he hb)]
  exact h4
def Closed (ops : Array Oper) (S : Nat → Bool) : Prop := ∀ i o, ops[i]? = some o → S i = true → ∀ e ∈ o.after, Region.binds .any e = true → S e.on = true
theorem closed_pre {ops : Array Oper} {S : Nat → Bool} (hlt : ∀ i o, ops[i]? = some o → ∀ e ∈ o.after, Region.binds .any e = true → e.on < i) (hc : Closed ops S) :
  ∀ (i : Nat) (o : Oper), ops[i]? = some o → (∀ e ∈ o.after, Region.binds .any e = true → S e.on = true) → ∀ j, pre ops i j = true → S j = true := by
 intro i
 induction i using Nat.strongRecOn with
 | _ i ih =>
  intro o ho hS j hj
  obtain ⟨e, he, hb, h⟩ := pre_spec ho (hlt i o ho) hj
  have hSe := hS e he hb
  rcases h with h | h
  · rw [← h]; exact hSe
  ·
   have hlt' := hlt i o ho e he hb
   have hoe : ∃ o', ops[e.on]? = some o' := by
    have : i < ops.size := (Array.getElem?_eq_some_iff.1 ho).1
    exact ⟨_, Array.getElem?_eq_getElem (by omega)⟩
   obtain ⟨o', ho'⟩ := hoe
   exact ih e.on hlt' o' ho' (fun e' he' hb' => hc e.on o' ho' hSe e' he' hb') j h
theorem lastW_eq {ops : Array Oper} {S : Nat → Bool} {t : Tmp} {i : Nat} : ∀ n, i ≤ n → (∀ j, j < n → dstOf ops j = some t → (S j = true ↔ j < i)) → lastW ops S t n = lastW ops (fun _ => true) t i
 | 0, h, _ => by
  have : i = 0 := by omega
  subst this; rfl
 | n + 1, h, hS => by
  by_cases hin : i = n + 1
  ·
   subst hin
   have key : ∀ m, m ≤ n + 1 → lastW ops S t m = lastW ops (fun _ => true) t m := by
    intro m
    induction m with
    | zero => intro _; rfl
    | succ m ih =>
     intro hm
     show (if _ then _ else _) = (if _ then _ else _)
     by_cases hd : dstOf ops m = some t
     · rw [if_pos ⟨hd, (hS m (by omega) hd).2 (by omega)⟩, if_pos ⟨hd, rfl⟩]
     ·
      rw [if_neg (fun h => hd h.1), if_neg (fun h => hd h.1)]
      exact ih (by omega)
   exact key _ (Nat.le_refl _)
  ·
   show (if _ then _ else _) = _
   rw [if_neg]
   · exact lastW_eq n (by omega) fun j hj hd => hS j (by omega) hd
   ·
    rintro ⟨hd, hs⟩
    have := (hS n (by omega) hd).1 hs
    omega
theorem lastW_congr {ops : Array Oper} {S S' : Nat → Bool} {t : Tmp} : ∀ n, (∀ j, j < n → dstOf ops j = some t → S j = S' j) → lastW ops S t n = lastW ops S' t n
 | 0, _ => rfl
 | n + 1, h => by
  show (if _ then _ else _) = (if _ then _ else _)
  rw [lastW_congr n fun j hj hd => h j (by omega) hd]
  by_cases hd : dstOf ops n = some t
  · rw [h n (by omega) hd]
  · rw [if_neg (fun h => hd h.1), if_neg (fun h => hd h.1)]
theorem lastW_spec {ops : Array Oper} {S : Nat → Bool} {t : Tmp} {j : Nat} : ∀ n, lastW ops S t n = some j → dstOf ops j = some t ∧ S j = true ∧ j < n
 | 0, h => by cases h
 | n + 1, h => by
  have h' : (if dstOf ops n = some t ∧ S n = true then some n else lastW ops S t n) = some j := h
  by_cases hd : dstOf ops n = some t ∧ S n = true
  ·
   rw [if_pos hd] at h'
   injection h' with h'
   subst h'
   exact ⟨hd.1, hd.2, by omega⟩
  ·
   rw [if_neg hd] at h'
   obtain ⟨h1, h2, h3⟩ := lastW_spec n h'
   exact ⟨h1, h2, by omega⟩
def slotS (ops : Array Oper) (a0 : Act) (vals : Nat → Value) (S : Nat → Bool) (n t : Nat) : Value :=
 match lastW ops S t n with
 | some j => vals j
 | none => a0.tmps.getD t undef
def slotB (ops : Array Oper) (a0 : Act) (vals : Nat → Value) (i t : Nat) : Value := slotS ops a0 vals (fun _ => true) i t
def rho (ops : Array Oper) (a0 : Act) (vals : Nat → Value) (i : Nat) : Operand → Value
 | .tmp t => slotB ops a0 vals i t
 | .const v => v
 | .global g => .pointer (some ⟨g, 0, none⟩)
 | .func f => .func (.func f) #[] #[]
def yv (ops : Array Oper) (a0 : Act) (vals : Nat → Value) (i j : Nat) : Option Bool :=
 match dstOf ops j with
 | some t => (match slotB ops a0 vals i t with | .bool b => some b | _ => none)
 | none => none
def Grow (w w' : World) : Prop := Below w.heap.size w w'
def StepR (P : Program) (V : Value → World → Prop) (w : World) : Result Next → Prop
 | .ok (.value v) w' => V v w' ∧ Grow w w'
 | .ok .skip w' => V undef w' ∧ Grow w w'
 | .ok (.enter f args) w' => Grow w w' ∧ Calls P f args w' fun e w'' => ∃ v, e = .returned v ∧ V v w'' ∧ Grow w' w''
 | _ => False
def Ob (P : Program) (ops : Array Oper) (a0 : Act) (C : World → Prop) (V : Nat → Value → World → Prop) (i : Nat) : Prop :=
 ∀ o, ops[i]? = some o → ∀ (vals : Nat → Value) (w : World), C w → (∀ j, pre ops i j = true → V j (vals j) w) →
  (Region.wanted o (yv ops a0 vals i) = true ∧ StepR P (V i) w ((execOp (rho ops a0 vals i) o).run P w)) ∨ (Region.wanted o (yv ops a0 vals i) = false ∧ V i undef w)
def frameOf (ops : Array Oper) (a0 : Act) (vals : Nat → Value) (k : Nat) : Act := (List.range k).foldl (fun a j => a.put (dstOf ops j) (vals j)) a0
theorem wp_of_step {P : Program} {o : Oper} {a : Act} {w : World} {K : Act → World → Prop} {Q : Exit → Act → World → Prop} {V : Value → World → Prop}
  (h : StepR P V w ((execOp a.eval o).run P w)) (hK : ∀ v w', V v w' → Grow w w' → K (a.put o.dst v) w') : o.wp P a w K Q := by
 unfold Oper.wp
 generalize (execOp a.eval o).run P w = r at h
 cases r with
 | ok n w' =>
  cases n <;> simp only [StepR] at h <;> simp only [Oper.upon]
  case value u => exact hK _ _ h.1 h.2
  case skip => exact hK _ _ h.1 h.2
  case enter f args =>
   exact h.2.mono fun e w'' ⟨v, he, hv, hg⟩ => by
    subst he
    exact hK _ _ hv (bt h.1 hg)
 | halt x w' => simp only [StepR] at h
theorem frameOf_defers (ops : Array Oper) (a0 : Act) (vals : Nat → Value) : ∀ k, (frameOf ops a0 vals k).defers = a0.defers ∧ (frameOf ops a0 vals k).tmps.size = a0.tmps.size
 | 0 => ⟨rfl, rfl⟩
 | k + 1 => by
  unfold frameOf
  rw [List.range_succ, List.foldl_append]
  have ih := frameOf_defers ops a0 vals k
  unfold frameOf at ih
  simp only [List.foldl_cons, List.foldl_nil]
  cases dstOf ops k with
  | none => exact ih
  | some d => exact ⟨ih.1, by simpa [Act.put] using ih.2⟩
theorem getD_put (a : Act) (d : Tmp) (v : Value) (t : Nat) (ht : d < a.tmps.size) : (a.put (some d) v).tmps.getD t undef = if t = d then v else a.tmps.getD t undef := by
 simp only [Act.put, Array.getD_eq_getD_getElem?, Array.getElem?_setIfInBounds]
 by_cases h : t = d
 · subst h; simp [ht]
 · rw [if_neg (fun e => h e.symm), if_neg h]
theorem frameOf_getD (ops : Array Oper) (a0 : Act) (vals : Nat → Value) (hd : ∀ j d, dstOf ops j = some d → d < a0.tmps.size) (t : Nat) : ∀ k, (frameOf ops a0 vals k).tmps.getD t undef = slotB ops a0 vals k t
 | 0 => rfl
 | k + 1 => by
  have ih := frameOf_getD ops a0 vals hd t k
  have hs := (frameOf_defers ops a0 vals k).2
  have e : frameOf ops a0 vals (k + 1) = (frameOf ops a0 vals k).put (dstOf ops k) (vals k) := by
   unfold frameOf
   rw [List.range_succ, List.foldl_append]
   rfl
  rw [e]
  unfold slotB slotS
  show _ = match (if dstOf ops k = some t ∧ true = true then some k else lastW ops (fun _ => true) t k) with | some j => vals j | none => _
  cases hk : dstOf ops k with
  | none =>
   rw [if_neg (by simp)]
   exact ih
  | some d =>
   rw [getD_put _ _ _ _ (by rw [hs]; exact hd k d hk)]
   by_cases h : t = d
   ·
    subst h
    rw [if_pos rfl, if_pos ⟨rfl, rfl⟩]
   ·
    rw [if_neg h, if_neg (fun e => h (by injection e.1 with e; exact e.symm))]
    exact ih
theorem act_ext {a b : Act} (h1 : a.defers = b.defers) (h2 : a.tmps.size = b.tmps.size) (h3 : ∀ t, t < a.tmps.size → a.tmps.getD t undef = b.tmps.getD t undef) : a = b := by
 obtain ⟨t1, d1⟩ := a
 obtain ⟨t2, d2⟩ := b
 simp only at h1 h2 h3
 subst h1
 congr 1
 apply Array.ext h2
 intro i hi hi2
 have := h3 i hi
 simpa [Array.getD_eq_getD_getElem?, hi, hi2] using this
section main
variable {P : Program} {ops : Array Oper} {a0 : Act} {C : World → Prop} {V : Nat → Value → World → Prop} {Q : Exit → Act → World → Prop} {n0 : Nat}
def L (listed : Array Bool) (i : Nat) : Bool := listed.getD i false
structure Inv (ops : Array Oper) (a0 : Act) (C : World → Prop) (V : Nat → Value → World → Prop) (n0 : Nat) (listed : Array Bool) (vals : Nat → Value) (a : Act) (w : World) : Prop where
 sz : listed.size = ops.size
 cl : Closed ops (L listed)
 c : C w
 v : ∀ j, j < n0 → L listed j = true → V j (vals j) w
 no : ∀ j, n0 ≤ j → L listed j = false
 df : a.defers = a0.defers
 ts : a.tmps.size = a0.tmps.size
 sl : ∀ t, a.tmps.getD t undef = slotS ops a0 vals (L listed) ops.size t
theorem ok_names (hok : ok ops a0.tmps.size n0 = true) {i : Nat} (hi : i < ops.size) {t : Tmp} (ht : t ∈ namesOf ops i) :
  t < a0.tmps.size ∧ ∀ j, j < ops.size → j ≠ i → dstOf ops j = some t → (if j < i then pre ops i j = true else pre ops j i = true) := by
 have h := List.all_eq_true.1 hok i (List.mem_range.2 hi)
 unfold okAt at h
 rw [Bool.and_eq_true, Bool.and_eq_true] at h
 have h1 := List.all_eq_true.1 h.1.1 t ht
 rw [Bool.and_eq_true] at h1
 refine ⟨of_decide_eq_true h1.1, fun j hj hji hd => ?_⟩
 have h2 := List.all_eq_true.1 h1.2 j (List.mem_range.2 hj)
 rw [hd] at h2
 simp only [Bool.or_eq_true, beq_iff_eq, bne_self_eq_false, Bool.false_eq_true, or_false] at h2
 rcases h2 with h2 | h2
 · exact absurd h2 hji
 ·
  by_cases hlt : j < i
  · rw [if_pos hlt] at h2 ⊢; exact h2
  · rw [if_neg hlt] at h2 ⊢; exact h2
theorem ok_edges (hok : ok ops a0.tmps.size n0 = true) (i : Nat) (o : Oper) (ho : ops[i]? = some o) : (∀ cs b, o.op ≠ .select cs b) ∧ ∀ e ∈ o.after, Region.binds .any e = true → e.on < i := by
 have hi : i < ops.size := (Array.getElem?_eq_some_iff.1 ho).1
 have h := List.all_eq_true.1 hok i (List.mem_range.2 hi)
 unfold okAt at h
 rw [Bool.and_eq_true, Bool.and_eq_true] at h
 have h2 := h.1.2
 rw [ho] at h2
 simp only [Bool.and_eq_true, Bool.not_eq_true'] at h2
 refine ⟨fun cs b e => by rw [e] at h2; simp [isSelect] at h2, fun e he hb => ?_⟩
 have h3 := List.all_eq_true.1 h2.2 e (by simpa using he)
 rw [hb] at h3
 simpa using h3
theorem ok_tail (hok : ok ops a0.tmps.size n0 = true) {i : Nat} (hi : i < ops.size) (hn : n0 ≤ i) : ∀ j, j < i → pre ops i j = true := by
 have h := List.all_eq_true.1 hok i (List.mem_range.2 hi)
 unfold okAt at h
 rw [Bool.and_eq_true] at h
 have h3 := h.2
 rw [Bool.or_eq_true] at h3
 rcases h3 with h3 | h3
 · have := of_decide_eq_true h3; omega
 · exact fun j hj => List.all_eq_true.1 h3 j (List.mem_range.2 hj)
theorem L_set (listed : Array Bool) (i j : Nat) (hi : i < listed.size) : L (listed.setIfInBounds i true) j = if j = i then true else L listed j := by
 unfold L
 simp only [Array.getD_eq_getD_getElem?, Array.getElem?_setIfInBounds]
 by_cases h : j = i
 · subst h; simp [hi]
 · rw [if_neg (fun e => h e.symm), if_neg h]
theorem ready_iff (listed : Array Bool) (hs : listed.size = ops.size) (j : Nat) : j ∈ Region.ready .any ops listed ↔
  L listed j = false ∧ ∃ o, ops[j]? = some o ∧ ∀ e ∈ o.after, Region.binds .any e = true → L listed e.on = true := by
 rw [mem_ready]
 constructor
 ·
  rintro ⟨h1, o, ho, h2⟩
  refine ⟨?_, o, ho, h2⟩
  have hj : j < listed.size := by rw [hs]; exact (Array.getElem?_eq_some_iff.1 ho).1
  unfold L
  simpa [Array.getD_eq_getD_getElem?, hj] using h1
 ·
  rintro ⟨h1, o, ho, h2⟩
  refine ⟨?_, o, ho, h2⟩
  have hj : j < listed.size := by rw [hs]; exact (Array.getElem?_eq_some_iff.1 ho).1
  unfold L at h1
  simpa [Array.getD_eq_getD_getElem?, hj] using h1
theorem tail_any (hok : ok ops a0.tmps.size n0 = true) : ∀ (l : List Oper) (k : Nat) (listed : Array Bool) (a : Act) (w : World), n0 ≤ k → (∀ j, l[j]? = ops[k + j]?) → listed.size = ops.size → (∀ j, L listed j = decide (j < k) ∨ ops.size ≤ j) →
  wpList P ops Q l a w → wpAny P .any ops Q l.length listed a w
 | [], k, listed, a, w, hn, hl, hs, hL, h => by
  refine ⟨?_, h⟩
  rw [List.eq_nil_iff_forall_not_mem]
  intro j hj
  obtain ⟨h1, o, ho, _⟩ := (ready_iff listed hs j).1 hj
  have hjs : j < ops.size := (Array.getElem?_eq_some_iff.1 ho).1
  have hk : ops.size ≤ k := by
   have := hl 0
   simp at this
   exact this
  rcases hL j with h2 | h2
  ·
   rw [h1] at h2
   have := of_decide_eq_false h2.symm
   omega
  · omega
 | o :: l, k, listed, a, w, hn, hl, hs, hL, h => by
  have h0 : ops[k]? = some o := by simpa using (hl 0).symm
  have hks : k < ops.size := (Array.getElem?_eq_some_iff.1 h0).1
  have hedge := ok_edges hok
  have hcl : Closed ops (L listed) := fun i o' ho' hi e he hb => by
   have h1 := (hedge i o' ho').2 e he hb
   have hil : i < ops.size := (Array.getElem?_eq_some_iff.1 ho').1
   rcases hL i with h2 | h2
   ·
    rw [hi] at h2
    have := of_decide_eq_true h2.symm
    rcases hL e.on with h3 | h3
    · rw [h3]; exact decide_eq_true (by omega)
    · omega
   · omega
  have hkr : k ∈ Region.ready .any ops listed := (ready_iff listed hs k).2 ⟨by
   rcases hL k with h2 | h2
   · rw [h2]; exact decide_eq_false (by omega)
   ·
    omega, o, h0, fun e he hb => by
    have h1 := (hedge k o h0).2 e he hb
    rcases hL e.on with h3 | h3
    · rw [h3]; exact decide_eq_true h1
    · omega⟩
  refine ⟨fun he => (by rw [he] at hkr; cases hkr), fun i hi => ?_⟩
  have hik : i = k := by
   obtain ⟨h1, o', ho', h2⟩ := (ready_iff listed hs i).1 hi
   have his : i < ops.size := (Array.getElem?_eq_some_iff.1 ho').1
   have hge : k ≤ i := by
    rcases hL i with h3 | h3
    · rw [h1] at h3; have := of_decide_eq_false h3.symm; omega
    · omega
   rcases Nat.eq_or_lt_of_le hge with h4 | h4
   · exact h4.symm
   ·
    have h5 := ok_tail hok his (by omega) k h4
    have h6 := closed_pre (fun i o ho => (hedge i o ho).2) hcl i o' ho' h2 k h5
    rcases hL k with h7 | h7
    · rw [h6] at h7; have := of_decide_eq_true h7.symm; omega
    · omega
  subst hik
  have ih := fun a w (h : wpList P ops Q l a w) => tail_any hok l (i + 1) (listed.setIfInBounds i true) a w (by omega) (fun j => by have := hl (j + 1); simpa [Nat.add_assoc, Nat.add_comm 1 j] using this) (by simpa using hs) (fun j => by
   rw [L_set _ _ _ (by rw [hs]; exact hks)]
   by_cases hji : j = i
   · subst hji; left; rw [if_pos rfl]; exact (decide_eq_true (by omega)).symm
   ·
    rw [if_neg hji]
    rcases hL j with h3 | h3
    ·
     left; rw [h3]
     by_cases h4 : j < i
     · rw [decide_eq_true h4, decide_eq_true (by omega)]
     · rw [decide_eq_false h4, decide_eq_false (by omega)]
    · exact .inr h3) h
  unfold wpList at h
  unfold wpOp
  simp only [h0]
  split
  ·
   rename_i hw
   rw [if_pos hw] at h
   rcases h with h | h
   · exact .inl (Oper.wp_mono ih h)
   · exact .inr h
  ·
   rename_i hw
   rw [if_neg hw] at h
   exact ih _ _ h
def left (n : Nat) (listed : Array Bool) : Nat := ((List.range n).filter fun i => !L listed i).length
theorem left_set (listed : Array Bool) (n i : Nat) (hs : listed.size = n) (hi : i < n) (h : L listed i = false) : left n listed = left n (listed.setIfInBounds i true) + 1 := by
 have key : ∀ m, m ≤ n → ((List.range m).filter fun j => !L listed j).length = ((List.range m).filter fun j => !L (listed.setIfInBounds i true) j).length + (if i < m then 1 else 0) := by
  intro m
  induction m with
  | zero => intro _; simp
  | succ m ih =>
   intro hm
   have ih' := ih (by omega)
   rw [List.range_succ, List.filter_append, List.filter_append, List.length_append, List.length_append, ih']
   have e := L_set listed i m (by omega)
   by_cases hmi : m = i
   ·
    subst hmi
    rw [if_pos rfl] at e
    simp [e, h]
   ·
    rw [if_neg hmi] at e
    have : (if i < m then 1 else 0) = (if i < m + 1 then 1 else 0) := by
     by_cases h1 : i < m
     · rw [if_pos h1, if_pos (by omega)]
     · rw [if_neg h1, if_neg (by omega)]
    rw [this]
    simp only [List.filter_cons, List.filter_nil, e]
    omega
 have := key n (Nat.le_refl _)
 rw [if_pos hi] at this
 exact this
theorem head_any (hok : ok ops a0.tmps.size n0 = true) (hn0 : n0 ≤ ops.size) (hCs : ∀ w w', C w → Grow w w' → C w') (hVs : ∀ j v w w', V j v w → Grow w w' → V j v w')
  (hob : ∀ i, i < n0 → Ob P ops a0 C V i)
  (hcont : ∀ (vals : Nat → Value) (w : World), C w → (∀ j, j < n0 → V j (vals j) w) → wpList P ops Q (ops.toList.drop n0) (frameOf ops a0 vals n0) w) :
  ∀ (fuel : Nat) (listed : Array Bool) (vals : Nat → Value) (a : Act) (w : World), left ops.size listed = fuel → Inv ops a0 C V n0 listed vals a w → wpAny P .any ops Q fuel listed a w := by
 have hedge := ok_edges hok
 have hdst : ∀ j d, dstOf ops j = some d → d < a0.tmps.size := fun j d hd => by
  have hj : j < ops.size := by
   rcases Nat.lt_or_ge j ops.size with h | h
   · exact h
   · unfold dstOf at hd; rw [Array.getElem?_eq_none h] at hd; cases hd
  refine (ok_names hok hj (t := d) ?_).1
  unfold namesOf
  unfold dstOf at hd
  rw [Array.getElem?_eq_getElem hj] at hd ⊢
  simp only [Option.bind_some] at hd
  simp [hd]
 intro fuel
 induction fuel with
 | zero =>
  intro listed vals a w hf hI
  -- nothing is left: so there is no tail, and all have come up
  have hall : ∀ j, j < ops.size → L listed j = true := fun j hj => by
   cases h : L listed j with
   | true => rfl
   | false =>
    have hm : j ∈ (List.range ops.size).filter fun i => !L listed i := List.mem_filter.2 ⟨List.mem_range.2 hj, by rw [h]; rfl⟩
    have := List.length_pos_of_mem hm
    unfold left at hf
    omega
  have hn : n0 = ops.size := by
   rcases Nat.eq_or_lt_of_le hn0 with h | h
   · exact h
   ·
    have h1 := hI.no n0 (Nat.le_refl _)
    rw [hall n0 h] at h1; cases h1
  have hfr : a = frameOf ops a0 vals n0 := by
   have h1 := frameOf_defers ops a0 vals n0
   refine act_ext (by rw [hI.df, h1.1]) (by rw [hI.ts, h1.2]) fun t ht => ?_
   rw [hI.sl, frameOf_getD ops a0 vals hdst, hn]
   unfold slotB slotS
   rw [lastW_congr ops.size fun j hj _ => hall j hj]
  have hc := hcont vals w hI.c fun j hj => hI.v j hj (hall j (by omega))
  rw [← hfr, hn, List.drop_of_length_le (by simp)] at hc
  refine ⟨?_, hc⟩
  rw [List.eq_nil_iff_forall_not_mem]
  intro j hj
  obtain ⟨h1, o, ho, _⟩ := (ready_iff listed hI.sz j).1 hj
  rw [hall j (Array.getElem?_eq_some_iff.1 ho).1] at h1
  cases h1
 | succ fuel ih =>
  intro listed vals a w hf hI
  by_cases hdone : ∀ j, j < n0 → L listed j = true
  ·
   -- the tail
   have hfr : a = frameOf ops a0 vals n0 := by
    have h1 := frameOf_defers ops a0 vals n0
    refine act_ext (by rw [hI.df, h1.1]) (by rw [hI.ts, h1.2]) fun t ht => ?_
    rw [hI.sl, frameOf_getD ops a0 vals hdst]
    unfold slotB slotS
    rw [lastW_eq ops.size hn0 fun j hj hd => ?_]
    constructor
    ·
     intro h
     rcases Nat.lt_or_ge j n0 with h1 | h1
     · exact h1
     · rw [hI.no j h1] at h; cases h
    · exact hdone j
   have hc := hcont vals w hI.c fun j hj => hI.v j hj (hdone j hj)
   rw [← hfr] at hc
   have hlen : (ops.toList.drop n0).length = fuel + 1 := by
    rw [← hf, List.length_drop, Array.length_toList]
    unfold left
    have e : ∀ m, ((List.range m).filter fun i => !L listed i).length = m - n0 := by
     intro m
     induction m with
     | zero => simp
     | succ m ihm =>
      rw [List.range_succ, List.filter_append, List.length_append, ihm]
      rcases Nat.lt_or_ge m n0 with h | h
      · simp [hdone m h]; omega
      · simp [hI.no m h]; omega
    rw [e]
   have := tail_any hok (ops.toList.drop n0) n0 listed a w (Nat.le_refl _) (fun j => by rw [List.getElem?_drop]; simp) hI.sz (fun j => by
    rcases Nat.lt_or_ge j n0 with h | h
    · left; rw [hdone j h, decide_eq_true h]
    · left; rw [hI.no j h, decide_eq_false (by omega)]) hc
   rw [hlen] at this
   exact this
  ·
   -- an operation of the head
   have hstep : ∀ i ∈ Region.ready .any ops listed, wpOp P ops Q i (wpAny P .any ops Q fuel (listed.setIfInBounds i true)) a w := by
    intro i hi
    obtain ⟨hun, o, ho, hed⟩ := (ready_iff listed hI.sz i).1 hi
    have his : i < ops.size := (Array.getElem?_eq_some_iff.1 ho).1
    have hpre := closed_pre (fun i o ho => (hedge i o ho).2) hI.cl i o ho hed
    have hin : i < n0 := by
     rcases Nat.lt_or_ge i n0 with h | h
     · exact h
     ·
      exfalso
      apply hdone
      intro j hj
      exact hpre j (ok_tail hok his h j (by omega))
    have hnm : ∀ t, t ∈ namesOf ops i → a.tmps.getD t undef = slotB ops a0 vals i t := fun t ht => by
     rw [hI.sl]
     unfold slotB slotS
     rw [lastW_eq ops.size (Nat.le_of_lt his) fun j hj hd => ?_]
     have hk := ok_names hok his ht
     constructor
     ·
      intro hl
      rcases Nat.lt_or_ge j i with h | h
      · exact h
      ·
       exfalso
       have hji : j ≠ i := fun e => by rw [e, hun] at hl; cases hl
       have h2 := hk.2 j hj hji hd
       rw [if_neg (by omega)] at h2
       obtain ⟨oj, hoj⟩ : ∃ oj, ops[j]? = some oj := ⟨_, Array.getElem?_eq_getElem hj⟩
       have h3 := closed_pre (fun i o ho => (hedge i o ho).2) hI.cl j oj hoj (hI.cl j oj hoj hl) i h2
       rw [hun] at h3; cases h3
     ·
      intro h
      have h2 := hk.2 j hj (by omega) hd
      rw [if_pos h] at h2
      exact hpre j h2
    have hlook : ∀ t, t ∈ o.looksAt ops → a.tmps.getD t undef = slotB ops a0 vals i t := fun t ht => hnm t (by unfold namesOf; rw [ho]; exact List.mem_append_right _ ht)
    have hexec : execOp a.eval o = execOp (rho ops a0 vals i) o := by
     refine execOp_congr o (hedge i o ho).1 fun x hx => ?_
     cases x with
     | tmp t => exact hlook t (by unfold Oper.looksAt; exact List.mem_append_left _ (List.mem_filterMap.2 ⟨.tmp t, by simpa using hx, rfl⟩))
     | const v => rfl
     | global g => rfl
     | func f => rfl
    have hwant : Region.wanted o (yielded ops a.tmps) = Region.wanted o (yv ops a0 vals i) := by
     unfold Region.wanted
     cases hg : o.guard with
     | none => rfl
     | some gw =>
      obtain ⟨g, want⟩ := gw
      have e : yielded ops a.tmps g = yv ops a0 vals i g := by
       unfold yielded yv
       show (match (dstOf ops g).bind (a.tmps[·]?) with | some (.bool b) => some b | _ => none) = _
       cases hd : dstOf ops g with
       | none => rfl
       | some t =>
        have ht : t ∈ o.looksAt ops := by
         unfold Oper.looksAt
         refine List.mem_append_right _ ?_
         rw [hg]
         unfold dstOf at hd
         simp [hd]
        have h2 := hlook t ht
        have hlt : t < a.tmps.size := by rw [hI.ts]; exact hdst g t hd
        have h3 : a.tmps[t]? = some (a.tmps.getD t undef) := by simp [Array.getD_eq_getD_getElem?, hlt]
        simp only [Option.bind_some, h3, h2]
        generalize slotB ops a0 vals i t = x
        cases x <;> rfl
      simp only [e]
    -- what follows, whatever the operation has yielded
    have hnext : ∀ v w', V i v w' → Grow w w' → wpAny P .any ops Q fuel (listed.setIfInBounds i true) (a.put o.dst v) w' := by
     intro v w' hv hg
     have hd : dstOf ops i = o.dst := by unfold dstOf; rw [ho]; rfl
     have hLs := fun j => L_set listed i j (by rw [hI.sz]; exact his)
     refine ih (listed.setIfInBounds i true) (fun j => if j = i then v else vals j) (a.put o.dst v) w' (by have := left_set listed ops.size i hI.sz his hun; omega) ⟨by simpa using hI.sz, ?_, hCs _ _ hI.c hg, ?_, ?_, ?_, ?_, ?_⟩
     ·
      intro j oj hoj hj e he hb
      rw [hLs] at hj ⊢
      by_cases h1 : e.on = i
      · rw [if_pos h1]
      ·
       rw [if_neg h1]
       by_cases h2 : j = i
       ·
        subst h2
        rw [ho] at hoj; injection hoj with hoj; subst hoj
        exact hed e he hb
       ·
        rw [if_neg h2] at hj
        exact hI.cl j oj hoj hj e he hb
     ·
      intro j hj hl
      rw [hLs] at hl
      by_cases h2 : j = i
      · subst h2; simpa using hv
      ·
       rw [if_neg h2] at hl ⊢
       exact hVs _ _ _ _ (hI.v j hj hl) hg
     ·
      intro j hj
      rw [hLs, if_neg (by omega)]
      exact hI.no j hj
     · cases o.dst <;> exact hI.df
     ·
      cases o.dst with
      | none => exact hI.ts
      | some d => simpa [Act.put] using hI.ts
     ·
      intro t
      have hother : ∀ (hne : o.dst ≠ some t), a.tmps.getD t undef = slotS ops a0 (fun j => if j = i then v else vals j) (L (listed.setIfInBounds i true)) ops.size t := fun hne => by
       rw [hI.sl]
       unfold slotS
       rw [lastW_congr (S := L (listed.setIfInBounds i true)) (S' := L listed) ops.size fun j hj hdj => by
        rw [hLs, if_neg (fun e => by subst e; rw [hd] at hdj; exact hne hdj)]]
       cases hlw : lastW ops (L listed) t ops.size with
       | none => rfl
       | some j =>
        have := lastW_spec ops.size hlw
        have hji : j ≠ i := fun e => by subst e; rw [hd] at this; exact hne this.1
        show vals j = if j = i then v else vals j
        rw [if_neg hji]
      cases hod : o.dst with
      | none => exact hother (by rw [hod]; simp)
      | some d =>
       rw [getD_put _ _ _ _ (by rw [hI.ts]; exact hdst i d (by rw [hd, hod]))]
       by_cases htd : t = d
       ·
        subst htd
        rw [if_pos rfl]
        unfold slotS
        have hnm' : t ∈ namesOf ops i := by unfold namesOf; rw [ho]; exact List.mem_append_left _ (by rw [hod]; simp)
        have hk := ok_names hok his hnm'
        rw [lastW_eq (i := i + 1) ops.size his fun j hj hdj => ?_]
        ·
         show v = match (if dstOf ops i = some t ∧ true = true then some i else _) with | some j => (if j = i then v else vals j) | none => _
         rw [if_pos ⟨by rw [hd, hod], rfl⟩]
         simp
        ·
         rw [hLs]
         by_cases hji : j = i
         · subst hji; simp
         ·
          rw [if_neg hji]
          have h2 := hk.2 j hj hji hdj
          constructor
          ·
           intro hl
           rcases Nat.lt_or_ge j i with h | h
           · omega
           ·
            exfalso
            rw [if_neg (by omega)] at h2
            obtain ⟨oj, hoj⟩ : ∃ oj, ops[j]? = some oj := ⟨_, Array.getElem?_eq_getElem hj⟩
            have h3 := closed_pre (fun i o ho => (hedge i o ho).2) hI.cl j oj hoj (hI.cl j oj hoj hl) i h2
            rw [hun] at h3; cases h3
          ·
           intro hlt
           have hlt' : j < i := by omega
           rw [if_pos hlt'] at h2
           exact hpre j h2
       ·
        rw [if_neg htd]
        exact hother (by rw [hod]; intro e; injection e with e; exact htd e.symm)
    have hobi := hob i hin o ho vals w hI.c fun j hj => hI.v j (by
     have h1 := hpre j hj
     rcases Nat.lt_or_ge j n0 with h | h
     · exact h
     · rw [hI.no j h] at h1; cases h1) (hpre j hj)
    unfold wpOp
    simp only [ho]
    rcases hobi with ⟨hw, hst⟩ | ⟨hw, hu⟩
    ·
     rw [← hwant] at hw
     rw [if_pos hw]
     rw [← hexec] at hst
     exact .inl (wp_of_step hst hnext)
    ·
     rw [← hwant] at hw
     rw [if_neg (by rw [hw]; simp)]
     exact hnext undef w hu (Below.refl _ _)
   refine ⟨fun he => ?_, hstep⟩
   exfalso
   apply hdone
   -- the least that has not come up may come up now
   intro j
   induction j using Nat.strongRecOn with
   | _ j ihj =>
    intro hj
    cases hl : L listed j with
    | true => rfl
    | false =>
     obtain ⟨oj, hoj⟩ : ∃ oj, ops[j]? = some oj := ⟨_, Array.getElem?_eq_getElem (by omega)⟩
     have : j ∈ Region.ready .any ops listed := (ready_iff listed hI.sz j).2 ⟨hl, oj, hoj, fun e hee hb => by
      have h1 := (hedge j oj hoj).2 e hee hb
      exact ihj e.on h1 (by omega)⟩
     rw [he] at this; cases this
end main
theorem wp_free {P : Program} {ops : Array Oper} {a0 : Act} {w0 : World} {Q : Exit → Act → World → Prop} {id : Nat} (n0 : Nat) (C : World → Prop) (V : Nat → Value → World → Prop)
  (hm : P.follows .mixedOrders = true) (hok : ok ops a0.tmps.size n0 = true) (hn0 : n0 ≤ ops.size) (hC : C w0.drew) (hCs : ∀ w w', C w → Grow w w' → C w') (hVs : ∀ j v w w', V j v w → Grow w w' → V j v w')
  (hob : ∀ i, i < n0 → Ob P ops a0 C V i)
  (hcont : ∀ (vals : Nat → Value) (w : World), C w → (∀ j, j < n0 → V j (vals j) w) → wpList P ops Q (ops.toList.drop n0) (frameOf ops a0 vals n0) w) : (Code.region id ops true).wp P Q a0 w0 := by
 refine wp_region_any hm ?_
 have hf : ∀ i, L (Array.replicate ops.size false) i = false := fun i => by
  unfold L
  simp only [Array.getD_eq_getD_getElem?, Array.getElem?_replicate]
  split <;> rfl
 refine head_any hok hn0 hCs hVs hob hcont ops.size _ (fun _ => undef) a0 w0.drew ?_ ⟨by simp, fun i o _ h => (by rw [hf] at h; cases h), hC, fun j _ h => (by rw [hf] at h; cases h), fun j _ => hf j, rfl, rfl, fun t => ?_⟩
 ·
  unfold left
  rw [List.filter_eq_self.2 fun i _ => by rw [hf]; rfl]
  simp
 ·
  unfold slotS
  have : ∀ n, lastW ops (L (Array.replicate ops.size false)) t n = none := by
   intro n
   induction n with
   | zero => rfl
   | succ n ih =>
    show (if _ then _ else _) = _
    rw [if_neg (fun h => by rw [hf] at h; cases h.2)]
    exact ih
  rw [this]
/-! ### Words for use: predicates with their stability; each kind of operation -/
structure SV where
 p : Value → World → Prop
 st : ∀ v w w', p v w → Grow w w' → p v w'
def kc (c : Value) : SV := ⟨fun v _ => v = c, fun _ _ _ h _ => h⟩
def kr (n : Nat) (xs : List Value) : SV := ⟨fun v w => ∃ A c, v = .slice A n c ∧ Rd w w.heap.size A xs ∧ n ≤ c ∧ c ≤ maxLen, fun v w w' ⟨A, c, h1, h2, h3, h4⟩ g => ⟨A, c, h1, (h2.below g).more g.size, h3, h4⟩⟩
def VV (l : List SV) (j : Nat) : Value → World → Prop := (l.getD j (kc undef)).p
theorem forall_zero {p : Nat → Prop} : ∀ i, i < 0 → p i := fun i h => by omega
theorem forall_succ {p : Nat → Prop} {n : Nat} (h : ∀ i, i < n → p i) (hn : p n) : ∀ i, i < n + 1 → p i := fun i hi => by
 rcases Nat.lt_or_ge i n with h' | h'
 · exact h i h'
 ·
  obtain rfl : i = n := by omega
  exact hn
theorem wp_free_l {P : Program} {ops : Array Oper} {a0 : Act} {w0 : World} {Q : Exit → Act → World → Prop} {id : Nat} (n0 : Nat) (C : World → Prop) (l : List SV)
  (hm : P.follows .mixedOrders = true) (hok : ok ops a0.tmps.size n0 = true) (hn0 : n0 ≤ ops.size) (hC : C w0.drew) (hCs : ∀ w w', C w → Grow w w' → C w')
  (hob : ∀ i, i < n0 → Ob P ops a0 C (VV l) i)
  (hcont : ∀ (vals : Nat → Value) (w : World), C w → (∀ j, j < n0 → VV l j (vals j) w) → wpList P ops Q (ops.toList.drop n0) (frameOf ops a0 vals n0) w) : (Code.region id ops true).wp P Q a0 w0 :=
 wp_free n0 C (VV l) hm hok hn0 hC hCs (fun j v w w' h g => (l.getD j (kc undef)).st v w w' h g) hob hcont
section words
variable {P : Program} {ops : Array Oper} {a0 : Act} {vals : Nat → Value} {i : Nat} {o : Oper} {V : Value → World → Prop} {w : World} {ρ : Operand → Value} {c : Value}
theorem arg1 {x : Operand} {c : Value} (h : ρ x = c) : (#[x] : Array Operand).map ρ = #[c] := by simp [h]
theorem arg2 {x y : Operand} {c d : Value} (h : ρ x = c) (h2 : ρ y = d) : (#[x, y] : Array Operand).map ρ = #[c, d] := by simp [h, h2]
def Does (P : Program) (V : Value → World → Prop) (w : World) (ρ : Operand → Value) (o : Oper) : Prop := StepR P V w ((execOp ρ o).run P w)
theorem ob_plain {C : World → Prop} {VS : Nat → Value → World → Prop} (oi : Oper) (ho : ops[i]? = some oi) (hg : oi.guard = none) (h : ∀ (vals : Nat → Value) (w : World), C w → (∀ j, pre ops i j = true → VS j (vals j) w) → Does P (VS i) w (rho ops a0 vals i) oi) : Ob P ops a0 C VS i := by
 intro o ho' vals w hC hd
 rw [ho] at ho'
 injection ho' with ho'
 subst ho'
 exact .inl ⟨by simp [Region.wanted, hg], h vals w hC hd⟩
theorem yv_of {j t : Nat} {b : Bool} (hd : dstOf ops j = some t) (hs : slotB ops a0 vals i t = .bool b) : yv ops a0 vals i j = some b := by
 unfold yv
 rw [hd]
 show (match slotB ops a0 vals i t with | .bool b => some b | _ => none) = _
 rw [hs]
theorem ob_guard {C : World → Prop} {VS : Nat → Value → World → Prop} (oi : Oper) (ho : ops[i]? = some oi) (j t : Nat) (b : Bool) (hg : oi.guard = some (j, b)) (hd : dstOf ops j = some t)
  (h : ∀ (vals : Nat → Value) (w : World), C w → (∀ j, pre ops i j = true → VS j (vals j) w) → slotB ops a0 vals i t = .bool b ∧ Does P (VS i) w (rho ops a0 vals i) oi) : Ob P ops a0 C VS i := by
 intro o ho' vals w hC hd'
 rw [ho] at ho'
 injection ho' with ho'
 subst ho'
 obtain ⟨h1, h2⟩ := h vals w hC hd'
 exact .inl ⟨by simp [Region.wanted, hg, yv_of hd h1], h2⟩
theorem ob_skip {C : World → Prop} {VS : Nat → Value → World → Prop} (oi : Oper) (ho : ops[i]? = some oi) (j t : Nat) (b : Bool) (hg : oi.guard = some (j, b)) (hd : dstOf ops j = some t)
  (h : ∀ (vals : Nat → Value) (w : World), C w → (∀ j, pre ops i j = true → VS j (vals j) w) → (slotB ops a0 vals i t = .bool (!b) ∨ slotB ops a0 vals i t = undef) ∧ VS i undef w) : Ob P ops a0 C VS i := by
 intro o ho' vals w hC hd'
 rw [ho] at ho'
 injection ho' with ho'
 subst ho'
 obtain ⟨h1, h2⟩ := h vals w hC hd'
 refine .inr ⟨?_, h2⟩
 rcases h1 with h1 | h1
 ·
  simp only [Region.wanted, hg, yv_of hd h1]
  cases b <;> rfl
 ·
  have : yv ops a0 vals i j = none := by
   unfold yv
   rw [hd]
   show (match slotB ops a0 vals i t with | .bool b => some b | _ => none) = _
   rw [h1]; rfl
  simp only [Region.wanted, hg, this]
  rfl
theorem d_move {x : Operand} (ho : o.op = .move x) (hx : ρ x = c) (hV : V c w) : Does P V w ρ o := by
 unfold Does; simp only [execOp, ho, hx, Sem.run_pure]; exact ⟨hV, Below.refl _ _⟩
theorem d_assign {x : Operand} (ho : o.op = .assign x) (hx : ρ x = c) (hV : V c w) : Does P V w ρ o := by
 unfold Does; simp only [execOp, ho, hx, Sem.run_pure]; exact ⟨hV, Below.refl _ _⟩
theorem d_pick {x y z : Operand} {b : Bool} (ho : o.op = .pick x y z) (hx : ρ x = .bool b) (hc : (if b then ρ y else ρ z) = c) (hV : V c w) : Does P V w ρ o := by
 unfold Does; simp only [execOp, ho, hx, asBool, Sem.run_bind, Sem.run_pure, Result.andThen_ok, hc]; exact ⟨hV, Below.refl _ _⟩
theorem d_bin {op : BinOp} {T yT : TypeId} {x y : Operand} {cx cy : Value} (ho : o.op = .binOp op T x y yT) (hx : ρ x = cx) (hy : ρ y = cy)
  (hg : (eqGuard op T x y cx cy).run P w = .ok () w) (hr : (binOp op T cx cy).run P w = .ok c w) (hV : V c w) : Does P V w ρ o := by
 unfold Does; simp only [execOp, ho, hx, hy, Sem.run_bind, hg, hr, Sem.run_pure, Result.andThen_ok]; exact ⟨hV, Below.refl _ _⟩
theorem d_un {op : UnOp} {T : TypeId} {x : Operand} {cx : Value} (ho : o.op = .unOp op T x) (hx : ρ x = cx) (hr : (Op.unary op cx).run P w = .ok c w) (hV : V c w) : Does P V w ρ o := by
 unfold Does; simp only [execOp, ho, hx, Sem.run_bind, hr, Sem.run_pure, Result.andThen_ok]; exact ⟨hV, Below.refl _ _⟩
theorem d_conv {src dst : TypeId} {x : Operand} {cx : Value} {w' : World} (ho : o.op = .convert src dst x) (hx : ρ x = cx) (hr : (convert src dst cx).run P w = .ok c w') (hg : Grow w w') (hV : V c w') : Does P V w ρ o := by
 unfold Does; simp only [execOp, ho, hx, Sem.run_bind, hr, Sem.run_pure, Result.andThen_ok]; exact ⟨hV, hg⟩
theorem d_load {T : TypeId} {x : Operand} {cx : Value} (ho : o.op = .load T x) (hx : ρ x = cx) (hr : (Instr.loadAt T cx).run P w = .ok c w) (hV : V c w) : Does P V w ρ o := by
 unfold Does; simp only [execOp, ho, hx, Sem.run_bind, hr, Sem.run_pure, Result.andThen_ok]; exact ⟨hV, Below.refl _ _⟩
theorem d_slice {T : TypeId} {x : Operand} {lo hi mx : Option Operand} {cx : Value} {clo chi cmx : Option Value} (ho : o.op = .slice T x lo hi mx) (hx : ρ x = cx) (hlo : lo.map ρ = clo) (hhi : hi.map ρ = chi) (hmx : mx.map ρ = cmx)
  (hr : (Instr.sliceAt T cx clo chi cmx).run P w = .ok c w) (hV : V c w) : Does P V w ρ o := by
 unfold Does; simp only [execOp, ho, hx, hlo, hhi, hmx, Sem.run_bind, hr, Sem.run_pure, Result.andThen_ok]; exact ⟨hV, Below.refl _ _⟩
theorem d_extract {x : Operand} {k : Nat} {cx : Value} (ho : o.op = .extract x k) (hx : ρ x = cx) (hr : (Instr.extract cx k).run P w = .ok c w) (hV : V c w) : Does P V w ρ o := by
 unfold Does; simp only [execOp, ho, hx, Sem.run_bind, hr, Sem.run_pure, Result.andThen_ok]; exact ⟨hV, Below.refl _ _⟩
theorem d_indexAddr {T : TypeId} {x y : Operand} {cx cy : Value} (ho : o.op = .indexAddr T x y) (hx : ρ x = cx) (hy : ρ y = cy) (hr : (Instr.indexAt T cx cy).run P w = .ok c w) (hV : V c w) : Does P V w ρ o := by
 unfold Does; simp only [execOp, ho, hx, hy, Sem.run_bind, hr, Sem.run_pure, Result.andThen_ok]; exact ⟨hV, Below.refl _ _⟩
theorem d_len {T : TypeId} {x : Operand} {A : Option Addr} {n k : Nat} {e : TypeId} (ho : o.op = .call { callee := .builtin .len, args := #[x], argTypes := #[T] }) (hu : P.underlying T = some (.slice e)) (hx : ρ x = .slice A n k) (hV : V (.int .i64 n) w) : Does P V w ρ o := by
 have hr : ((execOp ρ o).run P w) = .ok (.value (.int .i64 n)) w := by
  have hue : P.elem T = e := by simp [Program.elem, hu]
  have hl := run_len_slice (P := P) w T o.type A n k (by rw [hue]; exact hu)
  simp [execOp, ho, hx, resolve, invoke, builtin, hl, goInt]
 unfold Does; rw [hr]; exact ⟨hV, Below.refl _ _⟩
theorem d_call {f : FuncId} {fn : Func} {xs : Array Operand} {ts : Array TypeId} {args : Array Value} (hfn : P.funcs[f]? = some fn) (hname : (fn.name == "runtime.NumGoroutine") = false) (hbody : fn.body.isNone = false)
  (ho : o.op = .call { callee := .value (.func f), args := xs, argTypes := ts }) (hf : ρ (.func f) = .func (.func f) #[] #[]) (hx : xs.map ρ = args)
  (hc : Calls P f args w fun e w'' => ∃ v, e = .returned v ∧ V v w'' ∧ Grow w w'') : Does P V w ρ o := by
 have hr : ((execOp ρ o).run P w) = .ok (.enter f args) w := by
  have hn : ¬ fn.name = "runtime.NumGoroutine" := by simpa using hname
  have hb : ¬ fn.body = none := fun e => by rw [e] at hbody; cases hbody
  have h1 : (callFunc f args).run P w = .ok (.enter f args) w := by simp [callFunc, hfn, hn, hb]
  simp [execOp, ho, hx, hf, resolve, invoke, Deferred.ofValue, h1]
 unfold Does; rw [hr]; exact ⟨Below.refl _ _, hc⟩
theorem d_build {T : TypeId} {len : Nat} {parts : Array (Nat × Operand)} {vs : Array (Nat × Value)} {w' : World} (ho : o.op = .buildSlice T len parts) (hx : (parts.map fun (i, x) => (i, ρ x)) = vs) (hr : (Instr.buildSlice T len vs).run P w = .ok c w') (hg : Grow w w') (hV : V c w') : Does P V w ρ o := by
 unfold Does; simp only [execOp, ho, hx, Sem.run_bind, hr, Sem.run_pure, Result.andThen_ok]; exact ⟨hV, hg⟩
theorem parts1 {x : Operand} {c : Value} {k : Nat} (h : ρ x = c) : ((#[(k, x)] : Array (Nat × Operand)).map fun (i, x) => (i, ρ x)) = #[(k, c)] := by simp [h]
theorem parts4 {x y z u : Operand} {c d e f : Value} (h : ρ x = c) (h2 : ρ y = d) (h3 : ρ z = e) (h4 : ρ u = f) : ((#[(0, x), (1, y), (2, z), (3, u)] : Array (Nat × Operand)).map fun (i, x) => (i, ρ x)) = #[(0, c), (1, d), (2, e), (3, f)] := by simp [h, h2, h3, h4]
end words
theorem tr {vals : Nat → Value} {VS : Nat → Value → World → Prop} {w : World} {Q : Nat → Prop} {a c : Value} (j : Nat) (hd : ∀ j, Q j → VS j (vals j) w) (h1 : VS j (vals j) w = (vals j = c) := by rfl) (hq : Q j := by kernel_rfl) (h0 : a = vals j := by kernel_rfl) : a = c := h0.trans (h1 ▸ hd j hq)
theorem op {P : Program} {ops : Array Oper} {a0 : Act} {i : Nat} {C : World → Prop} {VS : Nat → Value → World → Prop} {oi : Oper} (h : ∀ (vals : Nat → Value) (w : World), C w → (∀ j, pre ops i j = true → VS j (vals j) w) → Does P (VS i) w (rho ops a0 vals i) oi) (ho : ops[i]? = some oi := by rfl) (hg : oi.guard = none := by rfl) : Ob P ops a0 C VS i := ob_plain oi ho hg h
theorem dm {P : Program} {V : Value → World → Prop} {w : World} {ρ : Operand → Value} {o : Oper} {c : Value} {x : Operand} (ho : o.op = .move x := by rfl) (hV : V c w := by rfl) (hx : ρ x = c := by kernel_rfl) : Does P V w ρ o := d_move ho hx hV
theorem skl {P : Program} {ops : Array Oper} {a0 : Act} {i : Nat} {C : World → Prop} {VS : Nat → Value → World → Prop} {oi : Oper} (j t : Nat) (b : Bool) (ho : ops[i]? = some oi := by rfl) (hg : oi.guard = some (j, b) := by rfl) (hd : dstOf ops j = some t := by rfl) (hq : pre ops i j = true := by kernel_rfl) (h0 : ∀ vals, slotB ops a0 vals i t = vals j := by (intro _; kernel_rfl)) (h1 : ∀ v w, VS j v w → v = .bool (!b) := by (intro _ _ h; exact h)) (h2 : ∀ w, VS i undef w := by (intro _; rfl)) : Ob P ops a0 C VS i := ob_skip oi ho j t b hg hd fun vals w _ h => ⟨.inl ((h0 vals).trans (h1 _ w (h j hq))), h2 w⟩
theorem skr {P : Program} {ops : Array Oper} {a0 : Act} {i : Nat} {C : World → Prop} {VS : Nat → Value → World → Prop} {oi : Oper} (j t : Nat) (b : Bool) (ho : ops[i]? = some oi := by rfl) (hg : oi.guard = some (j, b) := by rfl) (hd : dstOf ops j = some t := by rfl) (hq : pre ops i j = true := by kernel_rfl) (h0 : ∀ vals, slotB ops a0 vals i t = vals j := by (intro _; kernel_rfl)) (h1 : ∀ v w, VS j v w → v = undef := by (intro _ _ h; exact h)) (h2 : ∀ w, VS i undef w := by (intro _; rfl)) : Ob P ops a0 C VS i := ob_skip oi ho j t b hg hd fun vals w _ h => ⟨.inr ((h0 vals).trans (h1 _ w (h j hq))), h2 w⟩
theorem og {P : Program} {ops : Array Oper} {a0 : Act} {i : Nat} {C : World → Prop} {VS : Nat → Value → World → Prop} {oi : Oper} (j t : Nat) (b : Bool) (h : ∀ (vals : Nat → Value) (w : World), C w → (∀ j, pre ops i j = true → VS j (vals j) w) → Does P (VS i) w (rho ops a0 vals i) oi) (ho : ops[i]? = some oi := by rfl) (hg : oi.guard = some (j, b) := by rfl) (hd : dstOf ops j = some t := by rfl) (hq : pre ops i j = true := by kernel_rfl) (h0 : ∀ vals, slotB ops a0 vals i t = vals j := by (intro _; kernel_rfl)) (h1 : ∀ v w, VS j v w → v = .bool b := by (intro _ _ h; exact h)) : Ob P ops a0 C VS i := ob_guard oi ho j t b hg hd fun vals w hC hv => ⟨(h0 vals).trans (h1 _ w (hv j hq)), h vals w hC hv⟩
def fl : List Oper → List Value → Act → Act
  | o :: os, v :: vs, a => fl os vs (a.put o.dst v)
  | _, _, a => a
def All (w : World) : List SV → (List Value → Prop) → Prop
  | [], K => K []
  | p :: l, K => ∀ v, p.p v w → All w l (fun vs => K (v :: vs))
theorem all_of (w : World) (vals : Nat → Value) : ∀ (l : List SV) (K : List Value → Prop) (k : Nat), (∀ j, j < l.length → (l.getD j (kc undef)).p (vals (k + j)) w) → All w l K → K ((List.range' k l.length).map vals)
  | [], K, k, _, h => h
  | p :: l, K, k, hd, h => by
    have h1 := all_of w vals l (fun vs => K (vals k :: vs)) (k + 1) (fun j hj => by have := hd (j + 1) (by simp; omega); rw [show k + 1 + j = k + (j + 1) by omega]; simpa using this) (h (vals k) (by simpa using hd 0 (by simp)))
    simpa [List.range'_succ] using h1
theorem fl_eq (ops : List Oper) (vals : Nat → Value) : ∀ (n k : Nat) (a : Act), k + n ≤ ops.length → fl (ops.drop k) ((List.range' k n).map vals) a = (List.range' k n).foldl (fun a j => a.put ((ops[j]?).bind (·.dst)) (vals j)) a
  | 0, k, a, _ => by cases ops.drop k <;> rfl
  | n + 1, k, a, h => by
    rw [List.drop_eq_getElem_cons (by omega), List.range'_succ, List.map_cons, fl, fl_eq ops vals n (k + 1) _ (by omega), List.foldl_cons, List.getElem?_eq_getElem (by omega)]
    rfl
theorem go {P : Program} {ops os : Array Oper} {xs : List Oper} {a0 : Act} {Q : Exit → Act → World → Prop} {vals : Nat → Value} {w : World} {l : List SV} {n : Nat} (hd : ∀ j, j < n → VV l j (vals j) w) (h : All w l fun vs => wpList P os Q xs (fl ops.toList vs a0) w) (hn : n = l.length := by rfl) (ho : n ≤ ops.size := by decide) : wpList P os Q xs (frameOf ops a0 vals n) w := by
  subst hn
  have h1 := all_of w vals l _ 0 (fun j hj => by rw [Nat.zero_add]; exact hd j hj) h
  have h2 := fl_eq ops.toList vals l.length 0 a0 (by simpa using ho)
  rw [List.drop_zero] at h2
  have h3 : frameOf ops a0 vals l.length = fl ops.toList ((List.range' 0 l.length).map vals) a0 := by rw [h2, frameOf, List.range_eq_range']; simp [dstOf]
  rw [h3]; exact h1
theorem sa {α : Type _} {l : List α} {i : Nat} {a : α} : l.toArray.setIfInBounds i a = (l.set i a).toArray := List.setIfInBounds_toArray _ _ _
theorem s0 {α : Type _} {x b : α} {l : List α} : (x :: l).set 0 b = b :: l := rfl
theorem s1 {α : Type _} {x b : α} {l : List α} {n : Nat} : (x :: l).set (n + 1) b = x :: l.set n b := rfl
end Free
theorem run_idx {P : Program} {w : World} (T : TypeId) {e : TypeId} (hu : P.underlying T = some (.slice e)) (he : (P.info? (P.elem T)).map (·.size) = some 1) (b off n c i : Nat) (z : Int) (hz : z = (i : Int)) (hi : i < n) :
  (Instr.indexAt T (.slice (some ⟨b, off, none⟩) n c) (.int .i64 z)).run P w = .ok (.pointer (some ⟨b, off + i, none⟩)) w := by
 subst hz
 have hue : P.elem T = e := by simp [Program.elem, hu]
 rw [run_indexAt_slice w T _ n c .i64 _ (by rw [hue]; exact hu), if_pos ⟨by omega, by omega⟩, run_sizeOf_of _ 1 he, Result.andThen_ok, Int.toNat_natCast, Nat.mul_one]
 by_cases h0 : i = 0
 · subst h0; simp [Addr.add]
 · simp [Addr.add, h0]
structure Bs (w : World) (A : Option Addr) (n c : Nat) (l : List UInt8) : Prop where
 rd : Rd w w.heap.size A (l.map bv)
 len : l.length = n
 cap : n ≤ c
 max : c ≤ maxLen
structure Own8 (w : World) (B : Nat) (A : Option Addr) (n c : Nat) (l : List UInt8) : Prop where
 own : w.ownsRow B 5 1 (.slice A n c) n (l.map bv)
 len : l.length = n
 cap : n ≤ c
 max : c ≤ maxLen
section
variable {w w' : World} {B B' n c : Nat} {A : Option Addr} {l : List UInt8}
theorem Bs.keep (h : Bs w A n c l) (hb : Below w.heap.size w w') : Bs w' A n c l := ⟨(h.rd.below' hb (Nat.le_refl _)).more hb.size, h.len, h.cap, h.max⟩
theorem Own8.keep (h : Own8 w B A n c l) (hb : Below w.heap.size w w') : Own8 w' B A n c l := ⟨own_keep h.own hb (Nat.le_refl _), h.len, h.cap, h.max⟩
theorem Own8.base (h : Own8 w B A n c l) (hB : B' ≤ B) : Own8 w B' A n c l := ⟨own_base h.own hB, h.len, h.cap, h.max⟩
theorem Own8.bs (h : Own8 w B A n c l) : Bs w A n c l := ⟨Rd.of_own h.own, h.len, h.cap, h.max⟩
theorem Own8.nil (w : World) (B : Nat) : Own8 w B none 0 0 [] := ⟨own_nil _ _ _ _, rfl, Nat.le_refl _, Nat.zero_le _⟩
theorem Own8.new (w : World) (l : List UInt8) (cs : List Value) (hB : B ≤ w.heap.size) (hc : cs = l.map bv) (hl : l.length = n) (hn : n ≤ maxLen) : Own8 (w.alloc (.cells cs.toArray 5)) B (some ⟨w.heap.size, 0, none⟩) n n l := by
 subst hc
 exact ⟨own_new w (l.map bv) 5 1 n (by simpa using hl) hn hB, hl, Nat.le_refl _, hn⟩
theorem Bs.nil (w : World) : Bs w none 0 0 [] := ⟨Rd.nil, rfl, Nat.le_refl _, Nat.zero_le _⟩
theorem one_b (l : List UInt8) : ∀ u ∈ l.map bv, u.oneCell' = true := fun u hu => by
 obtain ⟨x, _, rfl⟩ := List.mem_map.1 hu
 rfl
theorem strLen (l : List UInt8) : (str l).size = l.length := by simp [str, ByteArray.size]
theorem strEq (a b : List UInt8) : ((str a).toList == (str b).toList) = decide (a = b) := by
 rw [str_toList, str_toList]
 by_cases h : a = b <;> simp [h]
theorem strCells_str (l : List UInt8) : Lib.strCells (str l) = l.map bv := by simp [Lib.strCells, str, bv]
end
def Ret8 (B : Nat) (l : List UInt8) (w : World) (e : Ending) (w' : World) : Prop := ∃ A n c, e = .returned (.slice A n c) ∧ Own8 w' B A n c l ∧ Below B w w'
def RetB (v : Bool) (w : World) (e : Ending) (w' : World) : Prop := e = .returned (.bool v) ∧ Below w.heap.size w w'
section
variable {ops : Array Oper} {rest : List Oper} {o : Oper} {a : Act} {Q : Exit → Act → World → Prop} {w : World}
theorem wl_app8 (hgd : o.guard = none) (s x : Operand) (ho : o.op = .call { callee := .builtin .append, args := #[s, x], argTypes := #[28, 28] })
  {B : Nat} {A : Option Addr} {n c : Nat} {l : List UInt8} (hs : a.eval s = .slice A n c) (h1 : Own8 w B A n c l)
  {A2 : Option Addr} {m c2 : Nat} {l2 : List UInt8} (hx : a.eval x = .slice A2 m c2) (h2 : Bs w A2 m c2 l2) (hsz : n + m ≤ 140737488355328) (hB : B ≤ w.heap.size)
  (h : ∀ A' n' c' w', Own8 w' B A' n' c' (l ++ l2) → Below B w w' → w.grownBy w' (Value.slice A n c).ownBlock → wpList Tryz.prog ops Q rest (a.put o.dst (.slice A' n' c')) w') : wpList Tryz.prog ops Q (o :: rest) a w :=
 wl_app hgd s x 28 ho B 5 1 1 bytesT _ n _ hs h1.own w.heap.size A2 m c2 (l2.map bv) hx h2.rd (by simpa using h2.len) (one_b _) (by rw [maxLen_eq]; omega) (by omega) hB fun A' c' w' g1 g2 _ g4 g5 g6 =>
  h A' (n + m) c' w' ⟨by rw [← List.map_append] at g1; exact g1, by rw [List.length_append, h1.len, h2.len], g5, g6⟩ g4 g2
theorem wl_appS (hgd : o.guard = none) (s x : Operand) (ho : o.op = .call { callee := .builtin .append, args := #[s, x], argTypes := #[28, 9] })
  {B : Nat} {A : Option Addr} {n c : Nat} {l : List UInt8} (hs : a.eval s = .slice A n c) (h1 : Own8 w B A n c l)
  {l2 : List UInt8} (hx : a.eval x = .string (str l2)) (hsz : n + l2.length ≤ 140737488355328) (hB : B ≤ w.heap.size)
  (h : ∀ A' n' c' w', Own8 w' B A' n' c' (l ++ l2) → Below B w w' → w.grownBy w' (Value.slice A n c).ownBlock → wpList Tryz.prog ops Q rest (a.put o.dst (.slice A' n' c')) w') : wpList Tryz.prog ops Q (o :: rest) a w := by
 obtain ⟨ht, ⟨i, z, hi, hz, h4, h5, h6⟩, hp⟩ := bytesT
 have hz2 : z = .int .u8 0 := by
  have e := info_u8
  rw [hi] at e
  simp only [Option.map_some, Option.some.injEq, Prod.mk.injEq] at e
  rw [hz] at e
  exact Option.some.inj e.1
 subst hz2
 refine Lib.wpList_append_own_string w hgd s x 28 9 ho B 5 i ht Tryz.underlying9 hi hz h4 h5 _ n _ hs h1.own (str l2) hx (by rw [strLen, maxLen_eq]; omega) (by rw [strLen]; exact hsz) hB fun v' w' g1 g2 _ => ?_
 rw [strCells_str, ← List.map_append, strLen] at g1
 obtain ⟨A', c', rfl, g3, g4⟩ := own_form g1
 exact h A' _ c' w' ⟨g1, by rw [List.length_append, h1.len], g3, g4⟩ (own_below h1.own g2 hB) g2
theorem wl_app1 (hgd : o.guard = none) (s x : Operand) (ho : o.op = .call { callee := .builtin .append, args := #[s, x], argTypes := #[28, 28] })
  {w0 : World} {y : Int} {B : Nat} {A : Option Addr} {n c : Nat} {l : List UInt8} (hs : a.eval s = .slice A n c) (h1 : Own8 w0 B A n c l)
  (hx : a.eval x = .slice (some ⟨w0.heap.size, 0, none⟩) 1 1) (b : UInt8) (hy : y = (b.toNat : Int)) (hsz : n ≤ 140737488355000) (hB : B ≤ w0.heap.size)
  (h : ∀ A' n' c' w', Own8 w' B A' n' c' (l ++ [b]) → Below B w0 w' → wpList Tryz.prog ops Q rest (a.put o.dst (.slice A' n' c')) w') : wpList Tryz.prog ops Q (o :: rest) a (w0.alloc (.cells #[.int .u8 y] 5)) := by
 subst hy
 have hb0 : Below w0.heap.size w0 (w0.alloc (.cells #[.int .u8 (b.toNat : Int)] 5)) := (Below.refl _ w0).alloc (Nat.le_refl _) _
 refine wl_app8 hgd s x ho hs (h1.keep hb0) (l2 := [b]) hx (Own8.new w0 [b] [bv b] (Nat.le_refl _) rfl (n := 1) rfl (by decide)).bs (by omega) (Nat.le_trans hB hb0.size) fun A' n' c' w' g1 g2 _ => h A' n' c' w' g1 ((hb0.mono hB).trans g2)
end
open Go.ChangeShapes Go.WideShapes Go.ChangeAt Go.RowKit
theorem wf_u8 {n : Int} (h : (Lit.int .u8 n).wf = true) : 0 ≤ n ∧ n < 256 := by
 have := bounds_u8 h
 omega
theorem bv_back {n : Int} (h : (Lit.int .u8 n).wf = true) : bv (UInt8.ofNat n.toNat) = .int .u8 n := by
 have := wf_u8 h
 unfold bv
 rw [UInt8.toNat_ofNat']
 congr 1
 omega
theorem str_of (s : ByteArray) (h : s.size ≤ maxLen) : ∃ l, s = str l ∧ l.length ≤ maxLen := ⟨s.data.toList, by simp [str], by simpa using h⟩
section
variable {H : Type} {enc : TypeId × Value → H} {W : World} {base : Nat} {v : Value} {d : DataW H} {p : List MemPlace} {r : Reach}
theorem rd_of_addr {w : World} {x : Addr} {B : Nat} {xs : List Value} (hb : x.block < B) (hc : ∀ i v, xs[i]? = some v → w.cell? (x.add i) = some v) : Rd w B (some x) xs := fun hn => by
 obtain ⟨b, off, spot⟩ := x
 cases xs with
 | nil => exact absurd rfl hn
 | cons v0 t =>
  have h0 := hc 0 v0 rfl
  have hspot : spot = none := by simpa [Addr.add] using World.cell?_spot h0
  subst hspot
  refine ⟨b, off, rfl, hb, fun j v hv => ?_⟩
  have := hc j v hv
  by_cases hj : j = 0
  · subst hj; simpa [Addr.add] using this
  · simpa [Addr.add, hj] using this
end
theorem own : ownKnob Tryz.prog.godebug = none := by kernel_rfl
theorem laidOut : laidOutB Tryz.prog = true := by kernel_rfl
open Go.ChangeShapes Go.WideShapes Go.ChangeAt Go.RowKit
structure Piece where
 a : Option Addr
 n : Nat
 c : Nat
 l : List UInt8
structure PieceAt (w : World) (x : Piece) : Prop where
 rd : Rd w w.heap.size x.a (x.l.map bv)
 len : x.l.length = x.n
 cap : x.n ≤ x.c
 max : x.c ≤ maxLen
def RowsAt (w : World) (A : Option Addr) (n : Nat) (f : Nat → Piece) : Prop :=
 0 < n → ∃ b off, A = some ⟨b, off, none⟩ ∧ b < w.heap.size ∧ ∀ i, i < n → w.cell? ⟨b, off + i, none⟩ = some (.slice (f i).a (f i).n (f i).c) ∧ PieceAt w (f i)
section
variable {H : Type} {enc : TypeId × Value → H} {W : World} {base : Nat} {v : Value} {d : DataW H} {p : List MemPlace} {r : Reach}
theorem open_piece {fuel : Nat} {cs : List Value} {x : DataW H × List MemPlace} (h : DataW.trod enc Tryz.prog W 0 (fun _ => true) true fuel 28 cs = some x) :
  ∃ q : Piece, cs = [.slice q.a q.n q.c] ∧ PieceAt W q := by
 rcases open_ints Tryz.underlying28 Tryz.underlying5 (by kernel_rfl) h with ⟨hcs, _⟩ | ⟨x, l, c, zs, hcs, _, hl, hm, hz, hx, hcell, hwz⟩
 · exact ⟨⟨none, 0, 0, []⟩, hcs, Rd.nil, rfl, Nat.le_refl _, Nat.zero_le _⟩
 ·
  have hz' : zs.length = c := by simpa using hz
  have e : ((zs.take l).map fun z => UInt8.ofNat z.toNat).map bv = (zs.take l).map (Value.int .u8) := by
   rw [List.map_map]
   exact List.map_congr_left fun z hzm => bv_back (hwz z (List.mem_of_mem_take hzm))
  refine ⟨⟨some x, l, c, (zs.take l).map fun z => UInt8.ofNat z.toNat⟩, hcs, ?_, by show _ = l; rw [List.length_map, List.length_take]; omega, hl, hm⟩
  show Rd W W.heap.size (some x) (((zs.take l).map fun z => UInt8.ofNat z.toNat).map bv)
  rw [e]
  by_cases hn : zs.take l = []
  · rw [hn]; exact Rd.nil
  ·
   have hlen : 0 < (zs.take l).length := List.length_pos_iff.2 hn
   rw [List.length_take] at hlen
   have hc0 := hcell 0 (by omega)
   have hb : x.block < W.heap.size := by
    have := World.block_lt_of_cell? W _ hc0
    obtain ⟨b, off, spot⟩ := x
    simpa [Addr.add] using this
   refine rd_of_addr hb fun i v hv => ?_
   rw [List.getElem?_map, List.getElem?_take] at hv
   split at hv
   ·
    rename_i hi
    have := hcell i (by omega)
    rw [this]
    have hz2 : zs[i]? = some (zs[i]'(by omega)) := List.getElem?_eq_getElem (by omega)
    rw [hz2] at hv
    simp only [Option.map_some, Option.some.injEq] at hv
    rw [← hv, List.getD, hz2]; rfl
   · simp at hv
end
open Go.ChangeShapes Go.WideShapes Go.ChangeAt Go.RowKit
section
variable {H : Type} {enc : TypeId × Value → H} {W : World} {base : Nat} {v : Value} {d : DataW H} {p : List MemPlace} {r : Reach}
end
end Go.Proofs.YteoledjllpgcbaaGreatDoor
