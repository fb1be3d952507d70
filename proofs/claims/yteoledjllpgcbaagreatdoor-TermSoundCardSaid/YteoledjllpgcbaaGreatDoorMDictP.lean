/- MDictP: several texts of this claim in one file. No statement of the seat is proved here. -/
import Derived.Test.YteoledjllpgcbaaGreatDoorMsgsA
import Derived.Test.YteoledjllpgcbaaGreatDoorMPostP
import Derived.Test.YteoledjllpgcbaaGreatDoorMBase
import Derived.Test.YteoledjllpgcbaaGreatDoorMTok
import Derived.Test.YteoledjllpgcbaaGreatDoorMReplyE
import Derived.Test.YteoledjllpgcbaaGreatDoorClashLeaf
namespace Go.Proofs.YteoledjllpgcbaaGreatDoor
set_option maxRecDepth 100000
set_option maxHeartbeats 64000000
set_option linter.unusedVariables false
open Go.ChangeShapes Go.WideShapes Go.ChangeAt Go.RowKit
structure EnD where
 t : List UInt8
 a : Option Addr
 n : Nat
 c : Nat
 l : List Int
def enc1 (d : EnD) : List Value := [sv d.t, .slice d.a d.n d.c]
theorem enc1_len (d : EnD) : (enc1 d).length = 2 := rfl
structure InEn (W : World) (d : EnD) : Prop where
 z : Zs W d.a d.n d.c d.l
 t : d.t.length ≤ maxLen
theorem InEn.keep {W W' : World} {d : EnD} (h : InEn W d) (hb : Below W.heap.size W W') : InEn W' d := ⟨h.z.keep hb, h.t⟩
structure InEs (W : World) (A : Option Addr) (n c : Nat) (L : List EnD) : Prop where
 q : Sq enc1 2 W A n c L
 i : ∀ d ∈ L, InEn W d
theorem InEs.keep {W W' : World} {A : Option Addr} {n c : Nat} {L : List EnD} (h : InEs W A n c L) (hb : Below W.heap.size W W') : InEs W' A n c L := ⟨h.q.keep hb, fun d hd => (h.i d hd).keep hb⟩
section
variable {H : Type} {enc : TypeId × Value → H} {W : World} {base : Nat} {v : Value} {d : DataW H} {p : List MemPlace} {r : Reach}
theorem open_intsC {fuel : Nat} {cs : List Value} {x : DataW H × List MemPlace} (h : DataW.trod enc Tryz.prog W 0 (fun _ => true) true fuel 43 cs = some x) : ∃ (A : Option Addr) (n c : Nat) (l : List Int), cs = [.slice A n c] ∧ Zs W A n c l := by
 rcases open_ints Tryz.underlying43 Tryz.underlying3 (by kernel_rfl) h with ⟨hcs, _⟩ | ⟨a, len, cap, zs, hcs, _, hl, hm, hz, hx, hcell, hwf⟩
 · exact ⟨none, 0, 0, [], hcs, Zs.nil W⟩
 ·
  have hz' : zs.length = cap := by simpa using hz
  refine ⟨some a, len, cap, zs.take len, hcs, ?_, by rw [List.length_take]; omega, hl, hm, fun z hz => bounds_i64 (hwf z (List.mem_of_mem_take hz))⟩
  by_cases hn : zs.take len = []
  · rw [hn]; exact Rd.nil
  ·
   have hlen : 0 < (zs.take len).length := List.length_pos_iff.2 hn
   rw [List.length_take] at hlen
   have hc0 := hcell 0 (by omega)
   have hb : a.block < W.heap.size := by
    have := World.block_lt_of_cell? W _ hc0
    obtain ⟨b, off, spot⟩ := a
    simpa [Addr.add] using this
   refine rd_of_addr hb fun i v hv => ?_
   rw [List.getElem?_map, List.getElem?_take] at hv
   split at hv
   ·
    rename_i hi
    rw [hcell i (by omega)]
    have hz2 : zs[i]? = some (zs[i]'(by omega)) := List.getElem?_eq_getElem (by omega)
    rw [hz2] at hv
    simp only [Option.map_some, Option.some.injEq] at hv
    rw [← hv, List.getD, hz2]
    rfl
   · simp at hv
theorem open_entryC {fuel : Nat} {cs : List Value} {x : DataW H × List MemPlace} (h : DataW.trod enc Tryz.prog W 0 (fun _ => true) true fuel 63 cs = some x) : ∃ d : EnD, cs = enc1 d ∧ InEn W d := by
 obtain ⟨y0, y1, m, _, hl, f0, f1⟩ := Go.ChangeShapes.trod_struct2 Tryz.underlying63 h
 have hl2 : cs.length = 2 := hl.trans (by kernel_rfl)
 obtain ⟨c0, c1, rfl⟩ := list2 hl2
 try dsimp only at f0
 rw [show Tryz.prog.cellsOf 9 = 1 by kernel_rfl] at f0
 have f0 : DataW.trod enc Tryz.prog W 0 (fun _ => true) true m 9 [c0] = some y0 := by simpa using f0
 try dsimp only at f1
 rw [show Tryz.prog.cellsOf 43 = 1 by kernel_rfl] at f1
 have f1 : DataW.trod enc Tryz.prog W 0 (fun _ => true) true m 43 [c1] = some y1 := by simpa using f1
 clear h hl hl2
 obtain ⟨t, e0, _, w0⟩ := DataW.trod_string Tryz.underlying9 f0
 obtain ⟨l, rfl, hl⟩ := str_of t w0
 obtain ⟨A, n, c, zs, e1, hz⟩ := open_intsC f1
 simp only [List.cons.injEq, and_true] at e0 e1
 exact ⟨⟨l, A, n, c, zs⟩, by rw [e0, e1]; rfl, hz, hl⟩
theorem open_entriesC {fuel : Nat} {cs : List Value} {x : DataW H × List MemPlace} (h : DataW.trod enc Tryz.prog W 0 (fun _ => true) true fuel 22 cs = some x) : ∃ (A : Option Addr) (n c : Nat) (L : List EnD), cs = [.slice A n c] ∧ InEs W A n c L := by
 rcases Go.Deep.open_slice Tryz.underlying22 h with ⟨hcs, _⟩ | ⟨a, len, cap, m, n, D, Pl, hcs, _, hl, hm, hmm, _, hel⟩
 · exact ⟨none, 0, 0, [], hcs, ⟨Sq.nil W, by simp⟩⟩
 ·
  have hE : Tryz.prog.cellsOf 63 = 2 := by kernel_rfl
  have key : ∀ i, ∃ s : EnD, i < len → W.cells? 0 (a.add (i * 2)) 2 = some (enc1 s) ∧ InEn W s := fun i => by
   by_cases hi : i < len
   ·
    obtain ⟨cs', h1, h2⟩ := hel i (by rw [hmm]; simp; omega)
    rw [hE] at h1
    obtain ⟨s, rfl, hs⟩ := open_entryC h2
    exact ⟨s, fun _ => ⟨h1, hs⟩⟩
   · exact ⟨⟨[], none, 0, 0, []⟩, fun h => absurd h hi⟩
  obtain ⟨f, hf⟩ := Classical.axiomOfChoice key
  have hall : ∀ d ∈ (List.range len).map f, InEn W d := fun d hd => by
   obtain ⟨i, hi, rfl⟩ := List.mem_map.1 hd
   exact (hf i (List.mem_range.1 hi)).2
  exact ⟨some a, len, cap, (List.range len).map f, hcs, ⟨sq_of enc1_len (by omega) f hl hm (fun i hi => (hf i hi).1), hall⟩⟩
end
end Go.Proofs.YteoledjllpgcbaaGreatDoor
namespace Go.Proofs.YteoledjllpgcbaaGreatDoor.Dc
set_option maxRecDepth 100000
set_option maxHeartbeats 64000000
set_option linter.unusedVariables false
open Hd
theorem lt_irr : ∀ (a : List UInt8), ¬ a < a
 | [], h => by simp at h
 | x :: l, h => by
  rcases List.cons_lt_cons_iff.1 h with h | ⟨_, h⟩
  · exact absurd h (by simp)
  · exact lt_irr l h
theorem lt_tr : ∀ (a b c : List UInt8), a < b → b < c → a < c
 | a, [], _, h, _ => by simp at h
 | [], y :: b, c, _, h => by
  cases c with
  | nil => simp at h
  | cons z c => simp
 | x :: a, y :: b, c, h1, h2 => by
  cases c with
  | nil => simp at h2
  | cons z c =>
   rcases List.cons_lt_cons_iff.1 h1 with h1 | ⟨e1, h1⟩ <;> rcases List.cons_lt_cons_iff.1 h2 with h2 | ⟨e2, h2⟩
   · exact List.cons_lt_cons_iff.2 (.inl (UInt8.lt_trans h1 h2))
   · exact List.cons_lt_cons_iff.2 (.inl (e2 ▸ h1))
   · exact List.cons_lt_cons_iff.2 (.inl (e1 ▸ h2))
   · exact List.cons_lt_cons_iff.2 (.inr ⟨e1.trans e2, lt_tr a b c h1 h2⟩)
theorem lt_tri : ∀ (a b : List UInt8), a < b ∨ a = b ∨ b < a
 | [], [] => .inr (.inl rfl)
 | [], y :: b => .inl (by simp)
 | x :: a, [] => .inr (.inr (by simp))
 | x :: a, y :: b => by
  by_cases hxy : x = y
  ·
   subst hxy
   rcases lt_tri a b with h | h | h
   · exact .inl (List.cons_lt_cons_iff.2 (.inr ⟨rfl, h⟩))
   · exact .inr (.inl (by rw [h]))
   · exact .inr (.inr (List.cons_lt_cons_iff.2 (.inr ⟨rfl, h⟩)))
  ·
   by_cases h : x < y
   · exact .inl (List.cons_lt_cons_iff.2 (.inl h))
   ·
    refine .inr (.inr (List.cons_lt_cons_iff.2 (.inl ?_)))
    rw [UInt8.lt_iff_toNat_lt] at h ⊢
    have : x.toNat ≠ y.toNat := fun e => hxy (UInt8.toNat_inj.1 e)
    omega
theorem lt_no {a b : List UInt8} (h : a < b) : ¬ b < a := fun g => lt_irr _ (lt_tr _ _ _ h g)
theorem lt_ne {a b : List UInt8} (h : a < b) : a ≠ b := fun g => lt_irr _ (g ▸ h)
def okE (e : EnD) : Bool := decide (e.l ≠ []) && (Post.right e.l && Tok.right e.t)
structure Good (L : List EnD) : Prop where
 ok : ∀ (k : Nat) (e : EnD), L[k]? = some e → okE e = true
 up : ∀ (k : Nat) (e f : EnD), L[k]? = some e → L[k + 1]? = some f → e.t < f.t
open Classical in
noncomputable def right (L : List EnD) : Bool := decide (Good L)
open Classical in
theorem right_yes {L : List EnD} (h : Good L) : right L = true := by unfold right; exact decide_eq_true h
open Classical in
theorem right_no {L : List EnD} (h : ¬ Good L) : right L = false := by unfold right; exact decide_eq_false h
open Classical in
theorem good_of {L : List EnD} (h : right L = true) : Good L := by unfold right at h; exact of_decide_eq_true h
def le (a b : List UInt8) : Bool := decide (a < b) || decide (a = b)
def fnd (s : List UInt8) : Nat → List EnD → Int → Int
 | _, [], a => a
 | i, e :: r, a => fnd s (i + 1) r (if le e.t s then (i : Int) else a)
def at_ (L : List EnD) (s : List UInt8) : Int := fnd s 0 L (-1)
def hasAt (L : List EnD) (s : List UInt8) (a : Int) : Bool := decide (0 ≤ a) && decide ((L[a.toNat]?).map (·.t) = some s)
def has (L : List EnD) (s : List UInt8) : Bool := hasAt L s (at_ L s)
theorem le_iff {a b : List UInt8} : le a b = true ↔ ¬ b < a := by
 unfold le
 rw [Bool.or_eq_true, decide_eq_true_iff, decide_eq_true_iff]
 constructor
 ·
  rintro (h | h)
  · exact lt_no h
  · rw [h]; exact lt_irr _
 ·
  intro h
  rcases lt_tri a b with g | g | g
  · exact .inl g
  · exact .inr g
  · exact absurd g h
theorem Good.sorted {L : List EnD} (h : Good L) : ∀ (j i : Nat) (e f : EnD), i < j → L[i]? = some e → L[j]? = some f → e.t < f.t
 | 0, i, e, f, hij, _, _ => by omega
 | j + 1, i, e, f, hij, he, hf => by
  have hj : j < L.length := by have := (List.getElem?_eq_some_iff.1 hf).1; omega
  by_cases hi : i = j
  · subst hi; exact h.up i e f he hf
  · exact lt_tr _ _ _ (h.sorted j i e L[j] (by omega) he (List.getElem?_eq_getElem hj)) (h.up j _ f (List.getElem?_eq_getElem hj) hf)
theorem fnd_spec (s : List UInt8) : ∀ (L : List EnD) (i : Nat) (a : Int), (∃ (k : Nat) (e : EnD), L[k]? = some e ∧ le e.t s = true ∧ fnd s i L a = ((i + k : Nat) : Int) ∧ ∀ (j : Nat) (f : EnD), k < j → L[j]? = some f → le f.t s = false) ∨ ((∀ (j : Nat) (f : EnD), L[j]? = some f → le f.t s = false) ∧ fnd s i L a = a)
 | [], i, a => .inr ⟨fun j f h => by simp at h, rfl⟩
 | e :: L, i, a => by
  rcases fnd_spec s L (i + 1) (if le e.t s then (i : Int) else a) with ⟨k, f, hk, hf, hv, hr⟩ | ⟨hr, hv⟩
  ·
   refine .inl ⟨k + 1, f, by simpa using hk, hf, by rw [fnd, hv]; congr 1; omega, fun j g hj hg => ?_⟩
   cases j with
   | zero => omega
   | succ j => exact hr j g (by omega) (by simpa using hg)
  ·
   cases he : le e.t s with
   | true =>
    rw [he, if_pos rfl] at hv
    refine .inl ⟨0, e, rfl, he, by rw [fnd, he, if_pos rfl, hv]; rfl, fun j g hj hg => ?_⟩
    cases j with
    | zero => omega
    | succ j => exact hr j g (by simpa using hg)
   | false =>
    rw [he, if_neg (by decide)] at hv
    refine .inr ⟨fun j g hg => ?_, by rw [fnd, he, if_neg (by decide), hv]⟩
    cases j with
    | zero => simp only [List.getElem?_cons_zero, Option.some.injEq] at hg; rw [← hg]; exact he
    | succ j => exact hr j g (by simpa using hg)
theorem at_cases (L : List EnD) (s : List UInt8) : (at_ L s = -1 ∧ ∀ (j : Nat) (f : EnD), L[j]? = some f → le f.t s = false) ∨ ∃ (k : Nat) (e : EnD), L[k]? = some e ∧ at_ L s = (k : Int) ∧ le e.t s = true ∧ ∀ (j : Nat) (f : EnD), k < j → L[j]? = some f → le f.t s = false := by
 rcases fnd_spec s L 0 (-1) with ⟨k, e, h1, h2, h3, h4⟩ | ⟨h1, h2⟩
 · exact .inr ⟨k, e, h1, by unfold at_; rw [h3]; congr 1; omega, h2, h4⟩
 · exact .inl ⟨h2, h1⟩
theorem at_range (L : List EnD) (s : List UInt8) : -1 ≤ at_ L s ∧ at_ L s < L.length := by
 rcases at_cases L s with ⟨h, _⟩ | ⟨k, e, h1, h2, _⟩
 · omega
 · have := (List.getElem?_eq_some_iff.1 h1).1; omega
def docsAt (L : List EnD) (a : Int) : List Int := ((L[a.toNat]?).map (·.l)).getD []
def docs (L : List EnD) (s : List UInt8) : List Int := if has L s then docsAt L (at_ L s) else []
theorem has_at {L : List EnD} (h : Good L) {j : Nat} {e : EnD} (he : L[j]? = some e) : at_ L e.t = (j : Int) ∧ has L e.t = true ∧ docs L e.t = e.l := by
 have key : at_ L e.t = (j : Int) := by
  rcases at_cases L e.t with ⟨_, h2⟩ | ⟨k, f, h1, h2, h3, h4⟩
  ·
   have := h2 j e he
   rw [le_iff.2 (lt_irr _)] at this
   cases this
  ·
   have hkj : k = j := by
    rcases Nat.lt_trichotomy k j with g | g | g
    ·
     have := h4 j e g he
     rw [le_iff.2 (lt_irr _)] at this
     cases this
    · exact g
    · exact absurd (h.sorted k j e f g he h1) (le_iff.1 h3)
   rw [h2, hkj]
 have h2 : has L e.t = true := by unfold has hasAt; rw [key]; simp [he]
 exact ⟨key, h2, by unfold docs; rw [h2, if_pos rfl]; unfold docsAt; rw [key]; simp [he]⟩
theorem hasAt_some {L : List EnD} {s : List UInt8} (h : has L s = true) : ∃ (k : Nat) (e : EnD), at_ L s = (k : Int) ∧ L[k]? = some e ∧ e.t = s ∧ docs L s = e.l := by
 have h' := h
 unfold has hasAt at h
 rw [Bool.and_eq_true, decide_eq_true_iff, decide_eq_true_iff] at h
 obtain ⟨h1, h2⟩ := h
 cases hx : L[(at_ L s).toNat]? with
 | none => rw [hx] at h2; cases h2
 | some e =>
  rw [hx] at h2
  refine ⟨(at_ L s).toNat, e, by omega, hx, by simpa using h2, ?_⟩
  unfold docs docsAt
  rw [h', if_pos rfl, hx]
  rfl
def enT (L : List EnD) (i : Nat) : List UInt8 := ((L[i]?).map (·.t)).getD []
def enL (L : List EnD) (i : Nat) : List Int := ((L[i]?).map (·.l)).getD []
def pre {α : Type} (i : Nat) (x : α) (f : Nat → α) : α := match i with | 0 => x | k + 1 => f k
def linkAt (L : List EnD) (i : Nat) : Lk := ⟨pre i [] (enT L), enT L i, seal_ 2 (Post.write (pre i [] (enL L)))⟩
def links (L : List EnD) : List By := (List.range (L.length + 1)).map fun i => (linkAt L i).bytes
theorem links_len (L : List EnD) : (links L).length = L.length + 1 := by simp [links]
theorem links_at {L : List EnD} {i : Nat} (h : i < L.length + 1) : (links L)[i]? = some (linkAt L i).bytes := by simp [links, List.getElem?_map, List.getElem?_range h]
abbrev root (L : List EnD) : By := troot (Cl.lv (links L))
theorem okE_iff {e : EnD} : okE e = true ↔ e.l ≠ [] ∧ Post.right e.l = true ∧ Tok.right e.t = true := by
 unfold okE
 rw [Bool.and_eq_true, Bool.and_eq_true, decide_eq_true_iff]
theorem tok_len {s : By} (h : Tok.right s = true) : s.length ≤ 64 ∧ s ≠ [] := by
 unfold Tok.right at h
 rw [Bool.and_eq_true, Bool.and_eq_true, decide_eq_true_iff, decide_eq_true_iff] at h
 refine ⟨h.2.2, fun e => ?_⟩
 have h2 := h.2.1
 rw [e] at h2
 revert h2
 decide
theorem enT_len {L : List EnD} (h : Good L) (i : Nat) : (enT L i).length ≤ 64 := by
 unfold enT
 cases hx : L[i]? with
 | none => simp
 | some e => exact (tok_len (okE_iff.1 (h.ok i e hx)).2.2).1
theorem linkAt_may {L : List EnD} (h : Good L) (i : Nat) : (linkAt L i).may = true := by
 refine Lk.may_iff.2 ⟨?_, enT_len h i, ?_⟩
 ·
  cases i with
  | zero => simp [linkAt, pre]
  | succ k => exact enT_len h k
 · exact Sha.sum_length _
end Go.Proofs.YteoledjllpgcbaaGreatDoor.Dc
namespace Go.Proofs.YteoledjllpgcbaaGreatDoor.Dc
set_option maxRecDepth 100000
set_option maxHeartbeats 64000000
set_option linter.unusedVariables false
open Hd
def atN (L : List EnD) (s : By) : Nat := (at_ L s + 1).toNat
def prove (L : List EnD) (s : By) : Pf := ⟨((atN L s : Nat) : Int), linkAt L (atN L s), tpath (Cl.lv (links L)) (atN L s), if has L s then Post.write (docs L s) else []⟩
def says (s : By) (p : Pf) : Option (List Int) :=
 if p.link.term = s then (match Post.read p.docs with | .error _ => none | .ok l => if seal_ 2 p.docs = p.link.posts then some l else none)
 else if p.link.term < s ∧ (s < p.link.next ∨ p.link.next = []) ∧ p.docs = [] then some [] else none
def fit (n : Int) (p : Pf) : Bool := decide (0 ≤ p.at_) && (decide (p.at_ < n) && (Tree.all32 p.path && decide (p.path.length = (Tree.sides p.at_.toNat n.toNat).length)))
def climbs (root : By) (n : Int) (p : Pf) : Bool := p.link.may && (fit n p && decide (tclimb (seal_ 0 p.link.bytes) p.at_.toNat n.toNat p.path = root))
def check (root : By) (n : Int) (s : By) (p : Pf) : Option (List Int) := if climbs root n p then says s p else none
def fairC (root : By) (n : Int) (s : By) : Bool := decide (root.length = 32) && (decide (1 ≤ n) && (decide (n ≤ 1099511627776) && Tok.right s))
def lfL (l : List By) (p : Pf) : Option (By × By) := if fit (l.length : Int) p = true then Cl.lf p.link.bytes (Tree.sides p.at_.toNat l.length) l p.path else none
noncomputable def clash (L : List EnD) (s : By) (p : Pf) : Option (By × By) :=
 if right L = true ∧ Tok.right s = true ∧ (check (root L) ((L.length + 1 : Nat) : Int) s p).isSome = true then
  (match lfL (links L) p with | some c => some c | none => if p.link.term = s then Cl.btw (2 :: p.docs) (2 :: Post.write (docs L s)) else none)
 else none
theorem atN_lt (L : List EnD) (s : By) : atN L s < L.length + 1 := by
 unfold atN
 have := at_range L s
 omega
theorem lv_len (l : List By) : (Cl.lv l).length = l.length := by simp [Cl.lv]
theorem prove_fit (L : List EnD) (s : By) : fit ((L.length + 1 : Nat) : Int) (prove L s) = true := by
 have h := atN_lt L s
 have h1 : tpath (Cl.lv (links L)) (atN L s) = tpath (Cl.lv (links L)) (atN L s) := rfl
 unfold fit
 rw [Bool.and_eq_true, Bool.and_eq_true, Bool.and_eq_true, decide_eq_true_iff, decide_eq_true_iff, decide_eq_true_iff]
 refine ⟨by unfold prove; simp, by unfold prove; simp only; omega, ?_, ?_⟩
 ·
  unfold Tree.all32
  rw [List.all_eq_true]
  intro x hx
  exact decide_eq_true (tpath_all (Cl.lv_all (links L)) _ x hx)
 ·
  show (Tree.path tnd tnil (Cl.lv (links L)) (atN L s)).length = _
  rw [Tree.path_len tnd tnil _ (Cl.lv (links L)) (atN L s) (Nat.le_refl _) (by rw [lv_len, links_len]; exact h), lv_len, links_len]
  unfold prove
  simp
theorem prove_climbs {L : List EnD} (hL : Good L) (s : By) : climbs (root L) ((L.length + 1 : Nat) : Int) (prove L s) = true := by
 have h := atN_lt L s
 unfold climbs
 rw [Bool.and_eq_true, Bool.and_eq_true, decide_eq_true_iff]
 refine ⟨linkAt_may hL _, prove_fit L s, ?_⟩
 have key := Tree.climb_path tnd tnil _ (Cl.lv (links L)) (atN L s) (seal_ 0 (linkAt L (atN L s)).bytes) (Nat.le_refl _) (by rw [Cl.lv, List.getElem?_map, links_at h]; rfl)
 rw [lv_len, links_len] at key
 unfold prove tclimb
 simpa using key
theorem enT_some {L : List EnD} {k : Nat} {e : EnD} (h : L[k]? = some e) : enT L k = e.t := by unfold enT; rw [h]; rfl
theorem enL_some {L : List EnD} {k : Nat} {e : EnD} (h : L[k]? = some e) : enL L k = e.l := by unfold enL; rw [h]; rfl
theorem enT_none {L : List EnD} {k : Nat} (h : L[k]? = none) : enT L k = [] := by unfold enT; rw [h]; rfl
theorem not_le {a b : By} (h : le a b = false) : b < a := by
 rcases lt_tri a b with g | g | g
 · rw [le_iff.2 (lt_no g)] at h; cases h
 · rw [le_iff.2 (by rw [g]; exact lt_irr _)] at h; cases h
 · exact g
theorem nil_lt {s : By} (h : s ≠ []) : [] < s := by
 cases s with
 | nil => exact absurd rfl h
 | cons x l => simp
theorem prove_says {L : List EnD} (hL : Good L) {s : By} (hs : Tok.right s = true) : says s (prove L s) = some (docs L s) := by
 have hne := (tok_len hs).2
 rcases at_cases L s with ⟨h1, h2⟩ | ⟨k, e, h1, h2, h3, h4⟩
 ·
  have hat : atN L s = 0 := by unfold atN; rw [h1]; rfl
  have hh : has L s = false := by unfold has hasAt; rw [h1]; rfl
  have hd : docs L s = [] := by unfold docs; rw [hh]; rfl
  unfold says prove
  rw [hat, hh, hd]
  simp only [Bool.false_eq_true, if_false]
  rw [if_neg (show ¬ (linkAt L 0).term = s from fun h => hne h.symm), if_pos]
  refine ⟨nil_lt hne, ?_, trivial⟩
  show s < enT L 0 ∨ enT L 0 = []
  cases hx : L[0]? with
  | none => exact .inr (enT_none hx)
  | some e => exact .inl (by rw [enT_some hx]; exact not_le (h2 0 e hx))
 ·
  have hat : atN L s = k + 1 := by unfold atN; rw [h2]; omega
  by_cases he : e.t = s
  ·
   obtain ⟨g1, g2, g3⟩ := has_at hL h1
   rw [he] at g1 g2 g3
   have hr := (okE_iff.1 (hL.ok k e h1)).2.1
   unfold says prove
   rw [hat, g2, g3]
   have e1 : (linkAt L (k + 1)).term = s := by show enT L k = s; rw [enT_some h1, he]
   have e2 : (linkAt L (k + 1)).posts = seal_ 2 (Post.write e.l) := by show seal_ 2 (Post.write (enL L k)) = _; rw [enL_some h1]
   simp only [if_true]
   rw [if_pos e1, Post.read_write hr, e2]
   simp
  ·
   have hlt : e.t < s := by
    rcases lt_tri e.t s with g | g | g
    · exact g
    · exact absurd g he
    · exact absurd g (le_iff.1 h3)
   have hh : has L s = false := by unfold has hasAt; rw [h2]; simp [h1, he]
   have hd : docs L s = [] := by unfold docs; rw [hh]; rfl
   unfold says prove
   rw [hat, hh, hd]
   simp only [Bool.false_eq_true, if_false]
   have e1 : (linkAt L (k + 1)).term = e.t := by show enT L k = _; rw [enT_some h1]
   rw [if_neg (by rw [e1]; exact he), if_pos]
   refine ⟨by rw [e1]; exact hlt, ?_, trivial⟩
   show s < enT L (k + 1) ∨ enT L (k + 1) = []
   cases hx : L[k + 1]? with
   | none => exact .inr (enT_none hx)
   | some f => exact .inl (by rw [enT_some hx]; exact not_le (h4 (k + 1) f (by omega) hx))
theorem prove_check {L : List EnD} (hL : Good L) {s : By} (hs : Tok.right s = true) : check (root L) ((L.length + 1 : Nat) : Int) s (prove L s) = some (docs L s) := by
 unfold check
 rw [prove_climbs hL s, if_pos rfl, prove_says hL hs]
theorem bytes_inj {a b : Lk} (ha : a.may = true) (hb : b.may = true) (h : a.bytes = b.bytes) : a = b := by
 have h1 := rdLk_bytes ha
 rw [h, rdLk_bytes hb] at h1
 injection h1 with h1
 exact h1.symm
theorem sound {L : List EnD} (hL : Good L) {s : By} (hs : Tok.right s = true) {p : Pf} {m : List Int} (hc : check (root L) ((L.length + 1 : Nat) : Int) s p = some m) (hm : m ≠ docs L s) : ∃ r, clash L s p = some r := by
 have hne := (tok_len hs).2
 unfold clash
 rw [if_pos ⟨right_yes hL, hs, by rw [hc]; rfl⟩]
 have hcl : climbs (root L) ((L.length + 1 : Nat) : Int) p = true := by
  cases h : climbs (root L) ((L.length + 1 : Nat) : Int) p with
  | true => rfl
  | false => unfold check at hc; rw [h] at hc; cases hc
 have hsay : says s p = some m := by unfold check at hc; rw [hcl, if_pos rfl] at hc; exact hc
 unfold climbs at hcl
 rw [Bool.and_eq_true, Bool.and_eq_true, decide_eq_true_iff] at hcl
 obtain ⟨hmay, hfit, hup⟩ := hcl
 have hfit' := hfit
 unfold fit at hfit
 rw [Bool.and_eq_true, Bool.and_eq_true, Bool.and_eq_true, decide_eq_true_iff, decide_eq_true_iff, decide_eq_true_iff] at hfit
 obtain ⟨f1, f2, f3, f4⟩ := hfit
 rw [Int.toNat_natCast] at f4
 cases hlf : lfL (links L) p with
 | some c => exact ⟨c, rfl⟩
 | none =>
  have hi : p.at_.toNat < L.length + 1 := by omega
  have hat : (links L)[p.at_.toNat]? = some p.link.bytes := by
   refine Classical.byContradiction fun hno => ?_
   obtain ⟨r, hr⟩ := Cl.lf_finds p.link.bytes _ (links L) p.path p.at_.toNat (Nat.le_refl _) (by rw [links_len]; exact hi) (all32_of f3) (by rw [links_len]; exact f4) (by rw [links_len]; rw [Int.toNat_natCast] at hup; exact hup) hno
   unfold lfL at hlf
   rw [links_len, hfit', if_pos rfl] at hlf
   rw [links_len] at hr
   rw [hr] at hlf
   cases hlf
  rw [links_at hi] at hat
  injection hat with hat
  have hlk : linkAt L p.at_.toNat = p.link := bytes_inj (linkAt_may hL _) hmay hat
  simp only
  unfold says at hsay
  by_cases ht : p.link.term = s
  ·
   rw [if_pos ht] at hsay ⊢
   cases hi : p.at_.toNat with
   | zero =>
    rw [hi] at hlk
    rw [← hlk] at ht
    exact absurd ht.symm hne
   | succ k =>
    rw [hi] at hlk
    have ht2 : enT L k = s := by rw [← ht, ← hlk]; rfl
    cases hx : L[k]? with
    | none => rw [enT_none hx] at ht2; exact absurd ht2.symm hne
    | some e =>
     rw [enT_some hx] at ht2
     obtain ⟨_, _, g3⟩ := has_at hL hx
     rw [ht2] at g3
     cases hr : Post.read p.docs with
     | error x => rw [hr] at hsay; cases hsay
     | ok l =>
      rw [hr] at hsay
      simp only at hsay
      by_cases hq : seal_ 2 p.docs = p.link.posts
      ·
       rw [if_pos hq] at hsay
       injection hsay with hsay
       cases hb : Cl.btw (2 :: p.docs) (2 :: Post.write (docs L s)) with
       | some r => exact ⟨r, rfl⟩
       | none =>
        have hq2 : Sha.sum (2 :: p.docs) = Sha.sum (2 :: Post.write (docs L s)) := by
         rw [g3]
         have : p.link.posts = seal_ 2 (Post.write (enL L k)) := by rw [← hlk]; rfl
         rw [this, enL_some hx] at hq
         exact hq
        have := Cl.btw_none hb hq2
        injection this with _ this
        rw [this, g3, Post.read_write (okE_iff.1 (hL.ok k e hx)).2.1] at hr
        injection hr with hr
        exact absurd (by rw [← hsay, ← hr, g3]) hm
      · rw [if_neg hq] at hsay; cases hsay
  ·
   rw [if_neg ht] at hsay
   split at hsay
   ·
    rename_i hw
    injection hsay with hsay
    obtain ⟨w1, w2, w3⟩ := hw
    refine absurd ?_ hm
    rw [← hsay]
    cases hh : has L s with
    | false => unfold docs; rw [hh]; rfl
    | true =>
     exfalso
     obtain ⟨j, e, _, hj, het, _⟩ := hasAt_some hh
     have hnx : p.link.next = enT L p.at_.toNat := by rw [← hlk]; rfl
     have htm : p.link.term = pre p.at_.toNat [] (enT L) := by rw [← hlk]; rfl
     have hjlt := (List.getElem?_eq_some_iff.1 hj).1
     have hge : p.at_.toNat ≤ j := by
      refine Classical.byContradiction fun hno => ?_
      cases hi : p.at_.toNat with
      | zero => omega
      | succ k =>
       rw [hi] at htm
       have hk : k < L.length := by omega
       have e1 : p.link.term = L[k].t := by rw [htm]; exact enT_some (List.getElem?_eq_getElem hk)
       by_cases hjk : j = k
       ·
        subst hjk
        rw [List.getElem?_eq_getElem hk] at hj
        injection hj with hj
        exact ht (by rw [e1, hj, het])
       ·
        have := hL.sorted k j e L[k] (by omega) hj (List.getElem?_eq_getElem hk)
        rw [het, ← e1] at this
        exact lt_no this w1
     have hi : p.at_.toNat < L.length := by omega
     have e2 : p.link.next = L[p.at_.toNat].t := by rw [hnx]; exact enT_some (List.getElem?_eq_getElem hi)
     have hok := okE_iff.1 (hL.ok p.at_.toNat _ (List.getElem?_eq_getElem hi))
     rcases w2 with w2 | w2
     ·
      rw [e2] at w2
      by_cases hjk : p.at_.toNat = j
      ·
       subst hjk
       rw [List.getElem?_eq_getElem hi] at hj
       injection hj with hj
       rw [hj, het] at w2
       exact lt_irr _ w2
      ·
       have := hL.sorted j p.at_.toNat _ e (by omega) (List.getElem?_eq_getElem hi) hj
       rw [het] at this
       exact lt_no this w2
     ·
      rw [e2] at w2
      exact (tok_len hok.2.2).2 w2
   · cases hsay
end Go.Proofs.YteoledjllpgcbaaGreatDoor.Dc
namespace Go.Proofs.YteoledjllpgcbaaGreatDoor
set_option maxRecDepth 100000
set_option maxHeartbeats 64000000
set_option linter.unusedVariables false
open Go.ChangeShapes Go.WideShapes Go.ChangeAt Go.RowKit
section
variable {H : Type} {enc : TypeId × Value → H} {W : World} {base : Nat} {v : Value} {d : DataW H} {p : List MemPlace} {r : Reach}
theorem open_entriesL (hv : Value.okWide Tryz.prog W r base 22 v) (h : DataW.Trod enc Tryz.prog W 0 (fun _ => true) true 22 v d p) :
  ∃ (A : Option Addr) (n c : Nat) (L : List EnD), v = .slice A n c ∧ InEs W A n c L := by
 obtain ⟨a0, len0, cap0, rfl⟩ := okWide_slice Tryz.underlying22 hv
 obtain ⟨fuel, hf⟩ := h
 obtain ⟨A, n, c, L, e, hi⟩ := open_entriesC (by simpa [Value.cells] using hf)
 exact ⟨A, n, c, L, by injection e, hi⟩
theorem open_proofL (hv : Value.okWide Tryz.prog W r base 30 v) (h : DataW.Trod enc Tryz.prog W 0 (fun _ => true) true 30 v d p) :
  ∃ x : PfD, v = pfv x.ap x.np x.cp x.ad x.nd x.cd x.p ∧ InPf9 W x := by
 obtain ⟨cs, rfl, hsz⟩ := okWide_struct Tryz.underlying30 hv
 obtain ⟨fuel, hf⟩ := h
 obtain ⟨x, e, hi⟩ := open_proofC (by simpa [Value.cells] using hf)
 refine ⟨x, ?_, hi⟩
 rw [← Array.toArray_toList (xs := cs), e]
 rfl
end
end Go.Proofs.YteoledjllpgcbaaGreatDoor
