/- A region that draws its order, walked once: of each operation is said, by a predicate on its value and the world, what it yields in every world of a class; whatever order the tape gives, these hold at the end. No statement of the seat is proved here. -/
import Derived.Test.YtoiilhbjlfdfpaaDoorGen
import Derived.Orders
namespace Go.Proofs.YtoiilhbjlfdfpaaDoor
set_option linter.unusedVariables false
open Go.RowKit

namespace Free
/-- What stands before an operation: a bit a predecessor. -/
def bits (o : Oper) (acc : List Nat) : Nat := o.after.toList.foldl (fun s e => if Region.binds .any e then s ||| 2 ^ e.on ||| acc.getD e.on 0 else s) 0
def cloFrom : List Oper → List Nat → List Nat
  | [], acc => acc
  | o :: rest, acc => cloFrom rest (acc ++ [bits o acc])
def clo (ops : Array Oper) : List Nat := cloFrom ops.toList []
/-- Must j have come up when i may? -/
def pre (ops : Array Oper) (i j : Nat) : Bool := ((clo ops).getD i 0).testBit j
def dstOf (ops : Array Oper) (i : Nat) : Option Tmp := (ops[i]?).bind (·.dst)
/-- The last operation before number i, among those of S, that writes slot t. -/
def lastW (ops : Array Oper) (S : Nat → Bool) (t : Nat) : Nat → Option Nat
  | 0 => none
  | i + 1 => if dstOf ops i = some t ∧ S i = true then some i else lastW ops S t i
def namesOf (ops : Array Oper) (i : Nat) : List Tmp := match ops[i]? with | some o => o.dst.toList ++ o.looksAt ops | none => []
def isSelect : Op → Bool | .select .. => true | _ => false
/-- The check, on the text alone. -/
def okAt (ops : Array Oper) (size : Nat) (n0 : Nat) (i : Nat) : Bool :=
  ((namesOf ops i).all fun t => decide (t < size) && (List.range ops.size).all fun j => j == i || dstOf ops j != some t || (if j < i then pre ops i j else pre ops j i)) &&
  (match ops[i]? with | some o => !isSelect o.op && o.after.toList.all (fun e => !Region.binds .any e || decide (e.on < i)) | none => true) &&
  (decide (i < n0) || (List.range i).all fun j => pre ops i j)
def ok (ops : Array Oper) (size : Nat) (n0 : Nat) : Bool := (List.range ops.size).all fun i => okAt ops size n0 i

theorem bits_spec (o : Oper) (acc : List Nat) (j : Nat) (h : (bits o acc).testBit j = true) : ∃ e ∈ o.after, Region.binds .any e = true ∧ (e.on = j ∨ (acc.getD e.on 0).testBit j = true) := by
  have key : ∀ (l : List Edge) (s : Nat), (l.foldl (fun s e => if Region.binds .any e then s ||| 2 ^ e.on ||| acc.getD e.on 0 else s) s).testBit j = true →
      s.testBit j = true ∨ ∃ e ∈ l, Region.binds .any e = true ∧ (e.on = j ∨ (acc.getD e.on 0).testBit j = true) := by
    intro l
    induction l with
    | nil => intro s h; exact .inl h
    | cons e l ih =>
      intro s h
      rw [List.foldl_cons] at h
      rcases ih _ h with h1 | ⟨e', h1, h2⟩
      · by_cases hb : Region.binds .any e = true
        · rw [if_pos hb, Nat.testBit_or, Nat.testBit_or, Bool.or_eq_true, Bool.or_eq_true] at h1
          rcases h1 with (h1 | h1) | h1
          · exact .inl h1
          · right
            refine ⟨e, by simp, hb, .inl ?_⟩
            rw [Nat.testBit_two_pow] at h1
            simpa using h1
          · exact .inr ⟨e, by simp, hb, .inr h1⟩
        · rw [if_neg hb] at h1
          exact .inl h1
      · exact .inr ⟨e', by simp [h1], h2⟩
  rcases key _ _ h with h1 | ⟨e, h1, h2⟩
  · simp at h1
  · exact ⟨e, by simpa using h1, h2⟩
theorem cloFrom_length : ∀ (l : List Oper) (acc : List Nat), (cloFrom l acc).length = acc.length + l.length
  | [], acc => by simp [cloFrom]
  | o :: l, acc => by rw [cloFrom, cloFrom_length l]; simp; omega
theorem cloFrom_old : ∀ (l : List Oper) (acc : List Nat) (i : Nat), i < acc.length → (cloFrom l acc).getD i 0 = acc.getD i 0
  | [], acc, i, _ => rfl
  | o :: l, acc, i, h => by
    rw [cloFrom, cloFrom_old l _ i (by simp; omega)]
    simp [List.getD, List.getElem?_append_left h]
theorem cloFrom_new : ∀ (l : List Oper) (acc : List Nat) (k : Nat) (o : Oper), l[k]? = some o → ∃ acc', (∀ i, i < acc'.length → acc'.getD i 0 = (cloFrom l acc).getD i 0) ∧ acc'.length = acc.length + k ∧ (cloFrom l acc).getD (acc.length + k) 0 = bits o acc'
  | [], acc, k, o, h => by simp at h
  | o' :: l, acc, 0, o, h => by
    simp at h
    subst h
    refine ⟨acc, fun i hi => (cloFrom_old _ _ _ hi).symm, rfl, ?_⟩
    rw [cloFrom, Nat.add_zero, cloFrom_old l _ _ (by simp)]
    simp [List.getD]
  | o' :: l, acc, k + 1, o, h => by
    obtain ⟨acc', h1, h2, h3⟩ := cloFrom_new l (acc ++ [bits o' acc]) k o (by simpa using h)
    refine ⟨acc', h1, by rw [h2]; simp; omega, ?_⟩
    rw [cloFrom, ← h3]
    congr 1
    simp; omega
theorem pre_spec {ops : Array Oper} {i j : Nat} {o : Oper} (ho : ops[i]? = some o) (hlt : ∀ e ∈ o.after, Region.binds .any e = true → e.on < i) (h : pre ops i j = true) :
    ∃ e ∈ o.after, Region.binds .any e = true ∧ (e.on = j ∨ pre ops e.on j = true) := by
  unfold pre clo at *
  obtain ⟨acc', h1, h2, h3⟩ := cloFrom_new ops.toList [] i o (by simpa using ho)
  simp only [List.length_nil, Nat.zero_add] at h2 h3
  rw [h3] at h
  obtain ⟨e, he, hb, h4⟩ := bits_spec o acc' j h
  refine ⟨e, he, hb, ?_⟩
  rcases h4 with h4 | h4
  · exact .inl h4
  · right
    rw [← h1 _ (by rw [h2]; exact hlt e he hb)]
    exact h4

/-- Whatever has come up is closed under what stands before. -/
def Closed (ops : Array Oper) (S : Nat → Bool) : Prop := ∀ i o, ops[i]? = some o → S i = true → ∀ e ∈ o.after, Region.binds .any e = true → S e.on = true
theorem closed_pre {ops : Array Oper} {S : Nat → Bool} (hlt : ∀ i o, ops[i]? = some o → ∀ e ∈ o.after, Region.binds .any e = true → e.on < i) (hc : Closed ops S) :
    ∀ (i : Nat) (o : Oper), ops[i]? = some o → (∀ e ∈ o.after, Region.binds .any e = true → S e.on = true) → ∀ j, pre ops i j = true → S j = true := by
  intro i
  induction i using Nat.strongRecOn with
  | _ i ih =>
    intro o ho hS j hj
    obtain ⟨e, he, hb, h⟩ := pre_spec ho (hlt i o ho) hj
    have hSe := hS e he hb
    rcases h with h | h
    · rw [← h]; exact hSe
    · have hlt' := hlt i o ho e he hb
      have hoe : ∃ o', ops[e.on]? = some o' := by
        have : i < ops.size := (Array.getElem?_eq_some_iff.1 ho).1
        exact ⟨_, Array.getElem?_eq_getElem (by omega)⟩
      obtain ⟨o', ho'⟩ := hoe
      exact ih e.on hlt' o' ho' (fun e' he' hb' => hc e.on o' ho' hSe e' he' hb') j h

theorem lastW_eq {ops : Array Oper} {S : Nat → Bool} {t : Tmp} {i : Nat} : ∀ n, i ≤ n → (∀ j, j < n → dstOf ops j = some t → (S j = true ↔ j < i)) → lastW ops S t n = lastW ops (fun _ => true) t i
  | 0, h, _ => by
    have : i = 0 := by omega
    subst this; rfl
  | n + 1, h, hS => by
    by_cases hin : i = n + 1
    · subst hin
      have key : ∀ m, m ≤ n + 1 → lastW ops S t m = lastW ops (fun _ => true) t m := by
        intro m
        induction m with
        | zero => intro _; rfl
        | succ m ih =>
          intro hm
          show (if _ then _ else _) = (if _ then _ else _)
          by_cases hd : dstOf ops m = some t
          · rw [if_pos ⟨hd, (hS m (by omega) hd).2 (by omega)⟩, if_pos ⟨hd, rfl⟩]
          · rw [if_neg (fun h => hd h.1), if_neg (fun h => hd h.1)]
            exact ih (by omega)
      exact key _ (Nat.le_refl _)
    · show (if _ then _ else _) = _
      rw [if_neg]
      · exact lastW_eq n (by omega) fun j hj hd => hS j (by omega) hd
      · rintro ⟨hd, hs⟩
        have := (hS n (by omega) hd).1 hs
        omega
theorem lastW_congr {ops : Array Oper} {S S' : Nat → Bool} {t : Tmp} : ∀ n, (∀ j, j < n → dstOf ops j = some t → S j = S' j) → lastW ops S t n = lastW ops S' t n
  | 0, _ => rfl
  | n + 1, h => by
    show (if _ then _ else _) = (if _ then _ else _)
    rw [lastW_congr n fun j hj hd => h j (by omega) hd]
    by_cases hd : dstOf ops n = some t
    · rw [h n (by omega) hd]
    · rw [if_neg (fun h => hd h.1), if_neg (fun h => hd h.1)]
theorem lastW_spec {ops : Array Oper} {S : Nat → Bool} {t : Tmp} {j : Nat} : ∀ n, lastW ops S t n = some j → dstOf ops j = some t ∧ S j = true ∧ j < n
  | 0, h => by cases h
  | n + 1, h => by
    have h' : (if dstOf ops n = some t ∧ S n = true then some n else lastW ops S t n) = some j := h
    by_cases hd : dstOf ops n = some t ∧ S n = true
    · rw [if_pos hd] at h'
      injection h' with h'
      subst h'
      exact ⟨hd.1, hd.2, by omega⟩
    · rw [if_neg hd] at h'
      obtain ⟨h1, h2, h3⟩ := lastW_spec n h'
      exact ⟨h1, h2, by omega⟩

/-- What slot t holds: the value of the last writer, or what it held. -/
def slotS (ops : Array Oper) (a0 : Act) (vals : Nat → Value) (S : Nat → Bool) (n t : Nat) : Value :=
  match lastW ops S t n with
  | some j => vals j
  | none => a0.tmps.getD t undef
def slotB (ops : Array Oper) (a0 : Act) (vals : Nat → Value) (i t : Nat) : Value := slotS ops a0 vals (fun _ => true) i t
/-- What operation number i reads. -/
def rho (ops : Array Oper) (a0 : Act) (vals : Nat → Value) (i : Nat) : Operand → Value
  | .tmp t => slotB ops a0 vals i t
  | .const v => v
  | .global g => .pointer (some ⟨g, 0, none⟩)
  | .func f => .func (.func f) #[] #[]
def yv (ops : Array Oper) (a0 : Act) (vals : Nat → Value) (i j : Nat) : Option Bool :=
  match dstOf ops j with
  | some t => (match slotB ops a0 vals i t with | .bool b => some b | _ => none)
  | none => none
/-- The one step of the class: nothing that is there turns. -/
def Grow (w w' : World) : Prop := Below w.heap.size w w'
def StepR (P : Program) (V : Value → World → Prop) (w : World) : Result Next → Prop
  | .ok (.value v) w' => V v w' ∧ Grow w w'
  | .ok .skip w' => V undef w' ∧ Grow w w'
  | .ok (.enter f args) w' => Grow w w' ∧ Calls P f args w' fun e w'' => ∃ v, e = .returned v ∧ V v w'' ∧ Grow w' w''
  | _ => False
/-- What is to be shown of operation number i. -/
def Ob (P : Program) (ops : Array Oper) (a0 : Act) (C : World → Prop) (V : Nat → Value → World → Prop) (i : Nat) : Prop :=
  ∀ o, ops[i]? = some o → ∀ (vals : Nat → Value) (w : World), C w → (∀ j, pre ops i j = true → V j (vals j) w) →
    (Region.wanted o (yv ops a0 vals i) = true ∧ StepR P (V i) w ((execOp (rho ops a0 vals i) o).run P w)) ∨ (Region.wanted o (yv ops a0 vals i) = false ∧ V i undef w)
def frameOf (ops : Array Oper) (a0 : Act) (vals : Nat → Value) (k : Nat) : Act := (List.range k).foldl (fun a j => a.put (dstOf ops j) (vals j)) a0

theorem wp_of_step {P : Program} {o : Oper} {a : Act} {w : World} {K : Act → World → Prop} {Q : Exit → Act → World → Prop} {V : Value → World → Prop}
    (h : StepR P V w ((execOp a.eval o).run P w)) (hK : ∀ v w', V v w' → Grow w w' → K (a.put o.dst v) w') : o.wp P a w K Q := by
  unfold Oper.wp
  generalize (execOp a.eval o).run P w = r at h
  cases r with
  | ok n w' =>
    cases n <;> simp only [StepR] at h <;> simp only [Oper.upon]
    case value u => exact hK _ _ h.1 h.2
    case skip => exact hK _ _ h.1 h.2
    case enter f args =>
      exact h.2.mono fun e w'' ⟨v, he, hv, hg⟩ => by
        subst he
        exact hK _ _ hv (bt h.1 hg)
  | halt x w' => simp only [StepR] at h

theorem frameOf_defers (ops : Array Oper) (a0 : Act) (vals : Nat → Value) : ∀ k, (frameOf ops a0 vals k).defers = a0.defers ∧ (frameOf ops a0 vals k).tmps.size = a0.tmps.size
  | 0 => ⟨rfl, rfl⟩
  | k + 1 => by
    unfold frameOf
    rw [List.range_succ, List.foldl_append]
    have ih := frameOf_defers ops a0 vals k
    unfold frameOf at ih
    simp only [List.foldl_cons, List.foldl_nil]
    cases dstOf ops k with
    | none => exact ih
    | some d => exact ⟨ih.1, by simpa [Act.put] using ih.2⟩
theorem getD_put (a : Act) (d : Tmp) (v : Value) (t : Nat) (ht : d < a.tmps.size) : (a.put (some d) v).tmps.getD t undef = if t = d then v else a.tmps.getD t undef := by
  simp only [Act.put, Array.getD_eq_getD_getElem?, Array.getElem?_setIfInBounds]
  by_cases h : t = d
  · subst h; simp [ht]
  · rw [if_neg (fun e => h e.symm), if_neg h]
theorem frameOf_getD (ops : Array Oper) (a0 : Act) (vals : Nat → Value) (hd : ∀ j d, dstOf ops j = some d → d < a0.tmps.size) (t : Nat) : ∀ k, (frameOf ops a0 vals k).tmps.getD t undef = slotB ops a0 vals k t
  | 0 => rfl
  | k + 1 => by
    have ih := frameOf_getD ops a0 vals hd t k
    have hs := (frameOf_defers ops a0 vals k).2
    have e : frameOf ops a0 vals (k + 1) = (frameOf ops a0 vals k).put (dstOf ops k) (vals k) := by
      unfold frameOf
      rw [List.range_succ, List.foldl_append]
      rfl
    rw [e]
    unfold slotB slotS
    show _ = match (if dstOf ops k = some t ∧ true = true then some k else lastW ops (fun _ => true) t k) with | some j => vals j | none => _
    cases hk : dstOf ops k with
    | none =>
      rw [if_neg (by simp)]
      exact ih
    | some d =>
      rw [getD_put _ _ _ _ (by rw [hs]; exact hd k d hk)]
      by_cases h : t = d
      · subst h
        rw [if_pos rfl, if_pos ⟨rfl, rfl⟩]
      · rw [if_neg h, if_neg (fun e => h (by injection e.1 with e; exact e.symm))]
        exact ih
theorem act_ext {a b : Act} (h1 : a.defers = b.defers) (h2 : a.tmps.size = b.tmps.size) (h3 : ∀ t, t < a.tmps.size → a.tmps.getD t undef = b.tmps.getD t undef) : a = b := by
  obtain ⟨t1, d1⟩ := a
  obtain ⟨t2, d2⟩ := b
  simp only at h1 h2 h3
  subst h1
  congr 1
  apply Array.ext h2
  intro i hi hi2
  have := h3 i hi
  simpa [Array.getD_eq_getD_getElem?, hi, hi2] using this

section main
variable {P : Program} {ops : Array Oper} {a0 : Act} {C : World → Prop} {V : Nat → Value → World → Prop} {Q : Exit → Act → World → Prop} {n0 : Nat}
def L (listed : Array Bool) (i : Nat) : Bool := listed.getD i false
structure Inv (ops : Array Oper) (a0 : Act) (C : World → Prop) (V : Nat → Value → World → Prop) (n0 : Nat) (listed : Array Bool) (vals : Nat → Value) (a : Act) (w : World) : Prop where
  sz : listed.size = ops.size
  cl : Closed ops (L listed)
  c : C w
  v : ∀ j, j < n0 → L listed j = true → V j (vals j) w
  no : ∀ j, n0 ≤ j → L listed j = false
  df : a.defers = a0.defers
  ts : a.tmps.size = a0.tmps.size
  sl : ∀ t, a.tmps.getD t undef = slotS ops a0 vals (L listed) ops.size t

theorem ok_names (hok : ok ops a0.tmps.size n0 = true) {i : Nat} (hi : i < ops.size) {t : Tmp} (ht : t ∈ namesOf ops i) :
    t < a0.tmps.size ∧ ∀ j, j < ops.size → j ≠ i → dstOf ops j = some t → (if j < i then pre ops i j = true else pre ops j i = true) := by
  have h := List.all_eq_true.1 hok i (List.mem_range.2 hi)
  unfold okAt at h
  rw [Bool.and_eq_true, Bool.and_eq_true] at h
  have h1 := List.all_eq_true.1 h.1.1 t ht
  rw [Bool.and_eq_true] at h1
  refine ⟨of_decide_eq_true h1.1, fun j hj hji hd => ?_⟩
  have h2 := List.all_eq_true.1 h1.2 j (List.mem_range.2 hj)
  rw [hd] at h2
  simp only [Bool.or_eq_true, beq_iff_eq, bne_self_eq_false, Bool.false_eq_true, or_false] at h2
  rcases h2 with h2 | h2
  · exact absurd h2 hji
  · by_cases hlt : j < i
    · rw [if_pos hlt] at h2 ⊢; exact h2
    · rw [if_neg hlt] at h2 ⊢; exact h2
theorem ok_edges (hok : ok ops a0.tmps.size n0 = true) (i : Nat) (o : Oper) (ho : ops[i]? = some o) : (∀ cs b, o.op ≠ .select cs b) ∧ ∀ e ∈ o.after, Region.binds .any e = true → e.on < i := by
  have hi : i < ops.size := (Array.getElem?_eq_some_iff.1 ho).1
  have h := List.all_eq_true.1 hok i (List.mem_range.2 hi)
  unfold okAt at h
  rw [Bool.and_eq_true, Bool.and_eq_true] at h
  have h2 := h.1.2
  rw [ho] at h2
  simp only [Bool.and_eq_true, Bool.not_eq_true'] at h2
  refine ⟨fun cs b e => by rw [e] at h2; simp [isSelect] at h2, fun e he hb => ?_⟩
  have h3 := List.all_eq_true.1 h2.2 e (by simpa using he)
  rw [hb] at h3
  simpa using h3
theorem ok_tail (hok : ok ops a0.tmps.size n0 = true) {i : Nat} (hi : i < ops.size) (hn : n0 ≤ i) : ∀ j, j < i → pre ops i j = true := by
  have h := List.all_eq_true.1 hok i (List.mem_range.2 hi)
  unfold okAt at h
  rw [Bool.and_eq_true] at h
  have h3 := h.2
  rw [Bool.or_eq_true] at h3
  rcases h3 with h3 | h3
  · have := of_decide_eq_true h3; omega
  · exact fun j hj => List.all_eq_true.1 h3 j (List.mem_range.2 hj)
theorem L_set (listed : Array Bool) (i j : Nat) (hi : i < listed.size) : L (listed.setIfInBounds i true) j = if j = i then true else L listed j := by
  unfold L
  simp only [Array.getD_eq_getD_getElem?, Array.getElem?_setIfInBounds]
  by_cases h : j = i
  · subst h; simp [hi]
  · rw [if_neg (fun e => h e.symm), if_neg h]
theorem ready_iff (listed : Array Bool) (hs : listed.size = ops.size) (j : Nat) : j ∈ Region.ready .any ops listed ↔
    L listed j = false ∧ ∃ o, ops[j]? = some o ∧ ∀ e ∈ o.after, Region.binds .any e = true → L listed e.on = true := by
  rw [mem_ready]
  constructor
  · rintro ⟨h1, o, ho, h2⟩
    refine ⟨?_, o, ho, h2⟩
    have hj : j < listed.size := by rw [hs]; exact (Array.getElem?_eq_some_iff.1 ho).1
    unfold L
    simpa [Array.getD_eq_getD_getElem?, hj] using h1
  · rintro ⟨h1, o, ho, h2⟩
    refine ⟨?_, o, ho, h2⟩
    have hj : j < listed.size := by rw [hs]; exact (Array.getElem?_eq_some_iff.1 ho).1
    unfold L at h1
    simpa [Array.getD_eq_getD_getElem?, hj] using h1

/-- The tail: each operation waits for all before it. -/
theorem tail_any (hok : ok ops a0.tmps.size n0 = true) : ∀ (l : List Oper) (k : Nat) (listed : Array Bool) (a : Act) (w : World), n0 ≤ k → (∀ j, l[j]? = ops[k + j]?) → listed.size = ops.size → (∀ j, L listed j = decide (j < k) ∨ ops.size ≤ j) →
    wpList P ops Q l a w → wpAny P .any ops Q l.length listed a w
  | [], k, listed, a, w, hn, hl, hs, hL, h => by
    refine ⟨?_, h⟩
    rw [List.eq_nil_iff_forall_not_mem]
    intro j hj
    obtain ⟨h1, o, ho, _⟩ := (ready_iff listed hs j).1 hj
    have hjs : j < ops.size := (Array.getElem?_eq_some_iff.1 ho).1
    have hk : ops.size ≤ k := by
      have := hl 0
      simp at this
      exact this
    rcases hL j with h2 | h2
    · rw [h1] at h2
      have := of_decide_eq_false h2.symm
      omega
    · omega
  | o :: l, k, listed, a, w, hn, hl, hs, hL, h => by
    have h0 : ops[k]? = some o := by simpa using (hl 0).symm
    have hks : k < ops.size := (Array.getElem?_eq_some_iff.1 h0).1
    have hedge := ok_edges hok
    have hcl : Closed ops (L listed) := fun i o' ho' hi e he hb => by
      have h1 := (hedge i o' ho').2 e he hb
      have hil : i < ops.size := (Array.getElem?_eq_some_iff.1 ho').1
      rcases hL i with h2 | h2
      · rw [hi] at h2
        have := of_decide_eq_true h2.symm
        rcases hL e.on with h3 | h3
        · rw [h3]; exact decide_eq_true (by omega)
        · omega
      · omega
    have hkr : k ∈ Region.ready .any ops listed := (ready_iff listed hs k).2 ⟨by
      rcases hL k with h2 | h2
      · rw [h2]; exact decide_eq_false (by omega)
      · omega, o, h0, fun e he hb => by
        have h1 := (hedge k o h0).2 e he hb
        rcases hL e.on with h3 | h3
        · rw [h3]; exact decide_eq_true h1
        · omega⟩
    refine ⟨fun he => (by rw [he] at hkr; cases hkr), fun i hi => ?_⟩
    have hik : i = k := by
      obtain ⟨h1, o', ho', h2⟩ := (ready_iff listed hs i).1 hi
      have his : i < ops.size := (Array.getElem?_eq_some_iff.1 ho').1
      have hge : k ≤ i := by
        rcases hL i with h3 | h3
        · rw [h1] at h3; have := of_decide_eq_false h3.symm; omega
        · omega
      rcases Nat.eq_or_lt_of_le hge with h4 | h4
      · exact h4.symm
      · have h5 := ok_tail hok his (by omega) k h4
        have h6 := closed_pre (fun i o ho => (hedge i o ho).2) hcl i o' ho' h2 k h5
        rcases hL k with h7 | h7
        · rw [h6] at h7; have := of_decide_eq_true h7.symm; omega
        · omega
    subst hik
    have ih := fun a w (h : wpList P ops Q l a w) => tail_any hok l (i + 1) (listed.setIfInBounds i true) a w (by omega) (fun j => by have := hl (j + 1); simpa [Nat.add_assoc, Nat.add_comm 1 j] using this) (by simpa using hs) (fun j => by
      rw [L_set _ _ _ (by rw [hs]; exact hks)]
      by_cases hji : j = i
      · subst hji; left; rw [if_pos rfl]; exact (decide_eq_true (by omega)).symm
      · rw [if_neg hji]
        rcases hL j with h3 | h3
        · left; rw [h3]
          by_cases h4 : j < i
          · rw [decide_eq_true h4, decide_eq_true (by omega)]
          · rw [decide_eq_false h4, decide_eq_false (by omega)]
        · exact .inr h3) h
    unfold wpList at h
    unfold wpOp
    simp only [h0]
    split
    · rename_i hw
      rw [if_pos hw] at h
      rcases h with h | h
      · exact .inl (Oper.wp_mono ih h)
      · exact .inr h
    · rename_i hw
      rw [if_neg hw] at h
      exact ih _ _ h

/-- How many have not come up. -/
def left (n : Nat) (listed : Array Bool) : Nat := ((List.range n).filter fun i => !L listed i).length
theorem left_set (listed : Array Bool) (n i : Nat) (hs : listed.size = n) (hi : i < n) (h : L listed i = false) : left n listed = left n (listed.setIfInBounds i true) + 1 := by
  have key : ∀ m, m ≤ n → ((List.range m).filter fun j => !L listed j).length = ((List.range m).filter fun j => !L (listed.setIfInBounds i true) j).length + (if i < m then 1 else 0) := by
    intro m
    induction m with
    | zero => intro _; simp
    | succ m ih =>
      intro hm
      have ih' := ih (by omega)
      rw [List.range_succ, List.filter_append, List.filter_append, List.length_append, List.length_append, ih']
      have e := L_set listed i m (by omega)
      by_cases hmi : m = i
      · subst hmi
        rw [if_pos rfl] at e
        simp [e, h]
      · rw [if_neg hmi] at e
        have : (if i < m then 1 else 0) = (if i < m + 1 then 1 else 0) := by
          by_cases h1 : i < m
          · rw [if_pos h1, if_pos (by omega)]
          · rw [if_neg h1, if_neg (by omega)]
        rw [this]
        simp only [List.filter_cons, List.filter_nil, e]
        omega
  have := key n (Nat.le_refl _)
  rw [if_pos hi] at this
  exact this

theorem head_any (hok : ok ops a0.tmps.size n0 = true) (hn0 : n0 ≤ ops.size) (hCs : ∀ w w', C w → Grow w w' → C w') (hVs : ∀ j v w w', V j v w → Grow w w' → V j v w')
    (hob : ∀ i, i < n0 → Ob P ops a0 C V i)
    (hcont : ∀ (vals : Nat → Value) (w : World), C w → (∀ j, j < n0 → V j (vals j) w) → wpList P ops Q (ops.toList.drop n0) (frameOf ops a0 vals n0) w) :
    ∀ (fuel : Nat) (listed : Array Bool) (vals : Nat → Value) (a : Act) (w : World), left ops.size listed = fuel → Inv ops a0 C V n0 listed vals a w → wpAny P .any ops Q fuel listed a w := by
  have hedge := ok_edges hok
  have hdst : ∀ j d, dstOf ops j = some d → d < a0.tmps.size := fun j d hd => by
    have hj : j < ops.size := by
      rcases Nat.lt_or_ge j ops.size with h | h
      · exact h
      · unfold dstOf at hd; rw [Array.getElem?_eq_none h] at hd; cases hd
    refine (ok_names hok hj (t := d) ?_).1
    unfold namesOf
    unfold dstOf at hd
    rw [Array.getElem?_eq_getElem hj] at hd ⊢
    simp only [Option.bind_some] at hd
    simp [hd]
  intro fuel
  induction fuel with
  | zero =>
    intro listed vals a w hf hI
    -- nothing is left: so there is no tail, and all have come up
    have hall : ∀ j, j < ops.size → L listed j = true := fun j hj => by
      cases h : L listed j with
      | true => rfl
      | false =>
        have hm : j ∈ (List.range ops.size).filter fun i => !L listed i := List.mem_filter.2 ⟨List.mem_range.2 hj, by rw [h]; rfl⟩
        have := List.length_pos_of_mem hm
        unfold left at hf
        omega
    have hn : n0 = ops.size := by
      rcases Nat.eq_or_lt_of_le hn0 with h | h
      · exact h
      · have h1 := hI.no n0 (Nat.le_refl _)
        rw [hall n0 h] at h1; cases h1
    have hfr : a = frameOf ops a0 vals n0 := by
      have h1 := frameOf_defers ops a0 vals n0
      refine act_ext (by rw [hI.df, h1.1]) (by rw [hI.ts, h1.2]) fun t ht => ?_
      rw [hI.sl, frameOf_getD ops a0 vals hdst, hn]
      unfold slotB slotS
      rw [lastW_congr ops.size fun j hj _ => hall j hj]
    have hc := hcont vals w hI.c fun j hj => hI.v j hj (hall j (by omega))
    rw [← hfr, hn, List.drop_of_length_le (by simp)] at hc
    refine ⟨?_, hc⟩
    rw [List.eq_nil_iff_forall_not_mem]
    intro j hj
    obtain ⟨h1, o, ho, _⟩ := (ready_iff listed hI.sz j).1 hj
    rw [hall j (Array.getElem?_eq_some_iff.1 ho).1] at h1
    cases h1
  | succ fuel ih =>
    intro listed vals a w hf hI
    by_cases hdone : ∀ j, j < n0 → L listed j = true
    · -- the tail
      have hfr : a = frameOf ops a0 vals n0 := by
        have h1 := frameOf_defers ops a0 vals n0
        refine act_ext (by rw [hI.df, h1.1]) (by rw [hI.ts, h1.2]) fun t ht => ?_
        rw [hI.sl, frameOf_getD ops a0 vals hdst]
        unfold slotB slotS
        rw [lastW_eq ops.size hn0 fun j hj hd => ?_]
        constructor
        · intro h
          rcases Nat.lt_or_ge j n0 with h1 | h1
          · exact h1
          · rw [hI.no j h1] at h; cases h
        · exact hdone j
      have hc := hcont vals w hI.c fun j hj => hI.v j hj (hdone j hj)
      rw [← hfr] at hc
      have hlen : (ops.toList.drop n0).length = fuel + 1 := by
        rw [← hf, List.length_drop, Array.length_toList]
        unfold left
        have e : ∀ m, ((List.range m).filter fun i => !L listed i).length = m - n0 := by
          intro m
          induction m with
          | zero => simp
          | succ m ihm =>
            rw [List.range_succ, List.filter_append, List.length_append, ihm]
            rcases Nat.lt_or_ge m n0 with h | h
            · simp [hdone m h]; omega
            · simp [hI.no m h]; omega
        rw [e]
      have := tail_any hok (ops.toList.drop n0) n0 listed a w (Nat.le_refl _) (fun j => by rw [List.getElem?_drop]; simp) hI.sz (fun j => by
        rcases Nat.lt_or_ge j n0 with h | h
        · left; rw [hdone j h, decide_eq_true h]
        · left; rw [hI.no j h, decide_eq_false (by omega)]) hc
      rw [hlen] at this
      exact this
    · -- an operation of the head
      have hstep : ∀ i ∈ Region.ready .any ops listed, wpOp P ops Q i (wpAny P .any ops Q fuel (listed.setIfInBounds i true)) a w := by
        intro i hi
        obtain ⟨hun, o, ho, hed⟩ := (ready_iff listed hI.sz i).1 hi
        have his : i < ops.size := (Array.getElem?_eq_some_iff.1 ho).1
        have hpre := closed_pre (fun i o ho => (hedge i o ho).2) hI.cl i o ho hed
        have hin : i < n0 := by
          rcases Nat.lt_or_ge i n0 with h | h
          · exact h
          · exfalso
            apply hdone
            intro j hj
            exact hpre j (ok_tail hok his h j (by omega))
        have hnm : ∀ t, t ∈ namesOf ops i → a.tmps.getD t undef = slotB ops a0 vals i t := fun t ht => by
          rw [hI.sl]
          unfold slotB slotS
          rw [lastW_eq ops.size (Nat.le_of_lt his) fun j hj hd => ?_]
          have hk := ok_names hok his ht
          constructor
          · intro hl
            rcases Nat.lt_or_ge j i with h | h
            · exact h
            · exfalso
              have hji : j ≠ i := fun e => by rw [e, hun] at hl; cases hl
              have h2 := hk.2 j hj hji hd
              rw [if_neg (by omega)] at h2
              obtain ⟨oj, hoj⟩ : ∃ oj, ops[j]? = some oj := ⟨_, Array.getElem?_eq_getElem hj⟩
              have h3 := closed_pre (fun i o ho => (hedge i o ho).2) hI.cl j oj hoj (hI.cl j oj hoj hl) i h2
              rw [hun] at h3; cases h3
          · intro h
            have h2 := hk.2 j hj (by omega) hd
            rw [if_pos h] at h2
            exact hpre j h2
        have hlook : ∀ t, t ∈ o.looksAt ops → a.tmps.getD t undef = slotB ops a0 vals i t := fun t ht => hnm t (by unfold namesOf; rw [ho]; exact List.mem_append_right _ ht)
        have hexec : execOp a.eval o = execOp (rho ops a0 vals i) o := by
          refine execOp_congr o (hedge i o ho).1 fun x hx => ?_
          cases x with
          | tmp t => exact hlook t (by unfold Oper.looksAt; exact List.mem_append_left _ (List.mem_filterMap.2 ⟨.tmp t, by simpa using hx, rfl⟩))
          | const v => rfl
          | global g => rfl
          | func f => rfl
        have hwant : Region.wanted o (yielded ops a.tmps) = Region.wanted o (yv ops a0 vals i) := by
          unfold Region.wanted
          cases hg : o.guard with
          | none => rfl
          | some gw =>
            obtain ⟨g, want⟩ := gw
            have e : yielded ops a.tmps g = yv ops a0 vals i g := by
              unfold yielded yv
              show (match (dstOf ops g).bind (a.tmps[·]?) with | some (.bool b) => some b | _ => none) = _
              cases hd : dstOf ops g with
              | none => rfl
              | some t =>
                have ht : t ∈ o.looksAt ops := by
                  unfold Oper.looksAt
                  refine List.mem_append_right _ ?_
                  rw [hg]
                  unfold dstOf at hd
                  simp [hd]
                have h2 := hlook t ht
                have hlt : t < a.tmps.size := by rw [hI.ts]; exact hdst g t hd
                have h3 : a.tmps[t]? = some (a.tmps.getD t undef) := by simp [Array.getD_eq_getD_getElem?, hlt]
                simp only [Option.bind_some, h3, h2]
                generalize slotB ops a0 vals i t = x
                cases x <;> rfl
            simp only [e]
        -- what follows, whatever the operation has yielded
        have hnext : ∀ v w', V i v w' → Grow w w' → wpAny P .any ops Q fuel (listed.setIfInBounds i true) (a.put o.dst v) w' := by
          intro v w' hv hg
          have hd : dstOf ops i = o.dst := by unfold dstOf; rw [ho]; rfl
          have hLs := fun j => L_set listed i j (by rw [hI.sz]; exact his)
          refine ih (listed.setIfInBounds i true) (fun j => if j = i then v else vals j) (a.put o.dst v) w' (by have := left_set listed ops.size i hI.sz his hun; omega) ⟨by simpa using hI.sz, ?_, hCs _ _ hI.c hg, ?_, ?_, ?_, ?_, ?_⟩
          · intro j oj hoj hj e he hb
            rw [hLs] at hj ⊢
            by_cases h1 : e.on = i
            · rw [if_pos h1]
            · rw [if_neg h1]
              by_cases h2 : j = i
              · subst h2
                rw [ho] at hoj; injection hoj with hoj; subst hoj
                exact hed e he hb
              · rw [if_neg h2] at hj
                exact hI.cl j oj hoj hj e he hb
          · intro j hj hl
            rw [hLs] at hl
            by_cases h2 : j = i
            · subst h2; simpa using hv
            · rw [if_neg h2] at hl ⊢
              exact hVs _ _ _ _ (hI.v j hj hl) hg
          · intro j hj
            rw [hLs, if_neg (by omega)]
            exact hI.no j hj
          · cases o.dst <;> exact hI.df
          · cases o.dst with
            | none => exact hI.ts
            | some d => simpa [Act.put] using hI.ts
          · intro t
            have hother : ∀ (hne : o.dst ≠ some t), a.tmps.getD t undef = slotS ops a0 (fun j => if j = i then v else vals j) (L (listed.setIfInBounds i true)) ops.size t := fun hne => by
              rw [hI.sl]
              unfold slotS
              rw [lastW_congr (S := L (listed.setIfInBounds i true)) (S' := L listed) ops.size fun j hj hdj => by
                rw [hLs, if_neg (fun e => by subst e; rw [hd] at hdj; exact hne hdj)]]
              cases hlw : lastW ops (L listed) t ops.size with
              | none => rfl
              | some j =>
                have := lastW_spec ops.size hlw
                have hji : j ≠ i := fun e => by subst e; rw [hd] at this; exact hne this.1
                show vals j = if j = i then v else vals j
                rw [if_neg hji]
            cases hod : o.dst with
            | none => exact hother (by rw [hod]; simp)
            | some d =>
              rw [getD_put _ _ _ _ (by rw [hI.ts]; exact hdst i d (by rw [hd, hod]))]
              by_cases htd : t = d
              · subst htd
                rw [if_pos rfl]
                unfold slotS
                have hnm' : t ∈ namesOf ops i := by unfold namesOf; rw [ho]; exact List.mem_append_left _ (by rw [hod]; simp)
                have hk := ok_names hok his hnm'
                rw [lastW_eq (i := i + 1) ops.size his fun j hj hdj => ?_]
                · show v = match (if dstOf ops i = some t ∧ true = true then some i else _) with | some j => (if j = i then v else vals j) | none => _
                  rw [if_pos ⟨by rw [hd, hod], rfl⟩]
                  simp
                · rw [hLs]
                  by_cases hji : j = i
                  · subst hji; simp
                  · rw [if_neg hji]
                    have h2 := hk.2 j hj hji hdj
                    constructor
                    · intro hl
                      rcases Nat.lt_or_ge j i with h | h
                      · omega
                      · exfalso
                        rw [if_neg (by omega)] at h2
                        obtain ⟨oj, hoj⟩ : ∃ oj, ops[j]? = some oj := ⟨_, Array.getElem?_eq_getElem hj⟩
                        have h3 := closed_pre (fun i o ho => (hedge i o ho).2) hI.cl j oj hoj (hI.cl j oj hoj hl) i h2
                        rw [hun] at h3; cases h3
                    · intro hlt
                      have hlt' : j < i := by omega
                      rw [if_pos hlt'] at h2
                      exact hpre j h2
              · rw [if_neg htd]
                exact hother (by rw [hod]; intro e; injection e with e; exact htd e.symm)
        have hobi := hob i hin o ho vals w hI.c fun j hj => hI.v j (by
          have h1 := hpre j hj
          rcases Nat.lt_or_ge j n0 with h | h
          · exact h
          · rw [hI.no j h] at h1; cases h1) (hpre j hj)
        unfold wpOp
        simp only [ho]
        rcases hobi with ⟨hw, hst⟩ | ⟨hw, hu⟩
        · rw [← hwant] at hw
          rw [if_pos hw]
          rw [← hexec] at hst
          exact .inl (wp_of_step hst hnext)
        · rw [← hwant] at hw
          rw [if_neg (by rw [hw]; simp)]
          exact hnext undef w hu (Below.refl _ _)
      refine ⟨fun he => ?_, hstep⟩
      exfalso
      apply hdone
      -- the least that has not come up may come up now
      intro j
      induction j using Nat.strongRecOn with
      | _ j ihj =>
        intro hj
        cases hl : L listed j with
        | true => rfl
        | false =>
          obtain ⟨oj, hoj⟩ : ∃ oj, ops[j]? = some oj := ⟨_, Array.getElem?_eq_getElem (by omega)⟩
          have : j ∈ Region.ready .any ops listed := (ready_iff listed hI.sz j).2 ⟨hl, oj, hoj, fun e hee hb => by
            have h1 := (hedge j oj hoj).2 e hee hb
            exact ihj e.on h1 (by omega)⟩
          rw [he] at this; cases this
end main

/-- A region that draws its order: the head's operations by what each yields, the tail in the text's order. -/
theorem wp_free {P : Program} {ops : Array Oper} {a0 : Act} {w0 : World} {Q : Exit → Act → World → Prop} {id : Nat} (n0 : Nat) (C : World → Prop) (V : Nat → Value → World → Prop)
    (hm : P.follows .mixedOrders = true) (hok : ok ops a0.tmps.size n0 = true) (hn0 : n0 ≤ ops.size) (hC : C w0.drew) (hCs : ∀ w w', C w → Grow w w' → C w') (hVs : ∀ j v w w', V j v w → Grow w w' → V j v w')
    (hob : ∀ i, i < n0 → Ob P ops a0 C V i)
    (hcont : ∀ (vals : Nat → Value) (w : World), C w → (∀ j, j < n0 → V j (vals j) w) → wpList P ops Q (ops.toList.drop n0) (frameOf ops a0 vals n0) w) : (Code.region id ops true).wp P Q a0 w0 := by
  refine wp_region_any hm ?_
  have hf : ∀ i, L (Array.replicate ops.size false) i = false := fun i => by
    unfold L
    simp only [Array.getD_eq_getD_getElem?, Array.getElem?_replicate]
    split <;> rfl
  refine head_any hok hn0 hCs hVs hob hcont ops.size _ (fun _ => undef) a0 w0.drew ?_ ⟨by simp, fun i o _ h => (by rw [hf] at h; cases h), hC, fun j _ h => (by rw [hf] at h; cases h), fun j _ => hf j, rfl, rfl, fun t => ?_⟩
  · unfold left
    rw [List.filter_eq_self.2 fun i _ => by rw [hf]; rfl]
    simp
  · unfold slotS
    have : ∀ n, lastW ops (L (Array.replicate ops.size false)) t n = none := by
      intro n
      induction n with
      | zero => rfl
      | succ n ih =>
        show (if _ then _ else _) = _
        rw [if_neg (fun h => by rw [hf] at h; cases h.2)]
        exact ih
    rw [this]

/-! ### Words for use: predicates with their stability; each kind of operation -/
structure SV where
  p : Value → World → Prop
  st : ∀ v w w', p v w → Grow w w' → p v w'
/-- Just this value, in whatever world. -/
def kc (c : Value) : SV := ⟨fun v _ => v = c, fun _ _ _ h _ => h⟩
/-- A slice of n elements that reads as the cells xs. -/
def kr (n : Nat) (xs : List Value) : SV := ⟨fun v w => ∃ A c, v = .slice A n c ∧ Rd w w.heap.size A xs ∧ n ≤ c ∧ c ≤ maxLen, fun v w w' ⟨A, c, h1, h2, h3, h4⟩ g => ⟨A, c, h1, (h2.below g).more g.size, h3, h4⟩⟩
def VV (l : List SV) (j : Nat) : Value → World → Prop := (l.getD j (kc undef)).p
theorem forall_zero {p : Nat → Prop} : ∀ i, i < 0 → p i := fun i h => by omega
theorem forall_succ {p : Nat → Prop} {n : Nat} (h : ∀ i, i < n → p i) (hn : p n) : ∀ i, i < n + 1 → p i := fun i hi => by
  rcases Nat.lt_or_ge i n with h' | h'
  · exact h i h'
  · obtain rfl : i = n := by omega
    exact hn

theorem wp_free_l {P : Program} {ops : Array Oper} {a0 : Act} {w0 : World} {Q : Exit → Act → World → Prop} {id : Nat} (n0 : Nat) (C : World → Prop) (l : List SV)
    (hm : P.follows .mixedOrders = true) (hok : ok ops a0.tmps.size n0 = true) (hn0 : n0 ≤ ops.size) (hC : C w0.drew) (hCs : ∀ w w', C w → Grow w w' → C w')
    (hob : ∀ i, i < n0 → Ob P ops a0 C (VV l) i)
    (hcont : ∀ (vals : Nat → Value) (w : World), C w → (∀ j, j < n0 → VV l j (vals j) w) → wpList P ops Q (ops.toList.drop n0) (frameOf ops a0 vals n0) w) : (Code.region id ops true).wp P Q a0 w0 :=
  wp_free n0 C (VV l) hm hok hn0 hC hCs (fun j v w w' h g => (l.getD j (kc undef)).st v w w' h g) hob hcont

section words
variable {P : Program} {ops : Array Oper} {a0 : Act} {vals : Nat → Value} {i : Nat} {o : Oper} {V : Value → World → Prop} {w : World} {ρ : Operand → Value} {c : Value}
theorem arg1 {x : Operand} {c : Value} (h : ρ x = c) : (#[x] : Array Operand).map ρ = #[c] := by simp [h]
theorem arg2 {x y : Operand} {c d : Value} (h : ρ x = c) (h2 : ρ y = d) : (#[x, y] : Array Operand).map ρ = #[c, d] := by simp [h, h2]
theorem arg3 {x y z : Operand} {c d e : Value} (h : ρ x = c) (h2 : ρ y = d) (h3 : ρ z = e) : (#[x, y, z] : Array Operand).map ρ = #[c, d, e] := by simp [h, h2, h3]
/-- The operation is carried out. -/
def Does (P : Program) (V : Value → World → Prop) (w : World) (ρ : Operand → Value) (o : Oper) : Prop := StepR P V w ((execOp ρ o).run P w)
theorem ob_plain {C : World → Prop} {VS : Nat → Value → World → Prop} (oi : Oper) (ho : ops[i]? = some oi) (hg : oi.guard = none) (h : ∀ (vals : Nat → Value) (w : World), C w → (∀ j, pre ops i j = true → VS j (vals j) w) → Does P (VS i) w (rho ops a0 vals i) oi) : Ob P ops a0 C VS i := by
  intro o ho' vals w hC hd
  rw [ho] at ho'
  injection ho' with ho'
  subst ho'
  exact .inl ⟨by simp [Region.wanted, hg], h vals w hC hd⟩
theorem yv_of {j t : Nat} {b : Bool} (hd : dstOf ops j = some t) (hs : slotB ops a0 vals i t = .bool b) : yv ops a0 vals i j = some b := by
  unfold yv
  rw [hd]
  show (match slotB ops a0 vals i t with | .bool b => some b | _ => none) = _
  rw [hs]
theorem ob_guard {C : World → Prop} {VS : Nat → Value → World → Prop} (oi : Oper) (ho : ops[i]? = some oi) (j t : Nat) (b : Bool) (hg : oi.guard = some (j, b)) (hd : dstOf ops j = some t)
    (h : ∀ (vals : Nat → Value) (w : World), C w → (∀ j, pre ops i j = true → VS j (vals j) w) → slotB ops a0 vals i t = .bool b ∧ Does P (VS i) w (rho ops a0 vals i) oi) : Ob P ops a0 C VS i := by
  intro o ho' vals w hC hd'
  rw [ho] at ho'
  injection ho' with ho'
  subst ho'
  obtain ⟨h1, h2⟩ := h vals w hC hd'
  exact .inl ⟨by simp [Region.wanted, hg, yv_of hd h1], h2⟩
theorem ob_skip {C : World → Prop} {VS : Nat → Value → World → Prop} (oi : Oper) (ho : ops[i]? = some oi) (j t : Nat) (b : Bool) (hg : oi.guard = some (j, b)) (hd : dstOf ops j = some t)
    (h : ∀ (vals : Nat → Value) (w : World), C w → (∀ j, pre ops i j = true → VS j (vals j) w) → (slotB ops a0 vals i t = .bool (!b) ∨ slotB ops a0 vals i t = undef) ∧ VS i undef w) : Ob P ops a0 C VS i := by
  intro o ho' vals w hC hd'
  rw [ho] at ho'
  injection ho' with ho'
  subst ho'
  obtain ⟨h1, h2⟩ := h vals w hC hd'
  refine .inr ⟨?_, h2⟩
  rcases h1 with h1 | h1
  · simp only [Region.wanted, hg, yv_of hd h1]
    cases b <;> rfl
  · have : yv ops a0 vals i j = none := by
      unfold yv
      rw [hd]
      show (match slotB ops a0 vals i t with | .bool b => some b | _ => none) = _
      rw [h1]; rfl
    simp only [Region.wanted, hg, this]
    rfl
theorem d_move {x : Operand} (ho : o.op = .move x) (hx : ρ x = c) (hV : V c w) : Does P V w ρ o := by
  unfold Does; simp only [execOp, ho, hx, Sem.run_pure]; exact ⟨hV, Below.refl _ _⟩
theorem d_assign {x : Operand} (ho : o.op = .assign x) (hx : ρ x = c) (hV : V c w) : Does P V w ρ o := by
  unfold Does; simp only [execOp, ho, hx, Sem.run_pure]; exact ⟨hV, Below.refl _ _⟩
theorem d_moveV {x : Operand} {v : Value} (ho : o.op = .move x) (hx : ρ x = v) (hV : V v w) : Does P V w ρ o := d_move ho hx hV
theorem d_pick {x y z : Operand} {b : Bool} (ho : o.op = .pick x y z) (hx : ρ x = .bool b) (hc : (if b then ρ y else ρ z) = c) (hV : V c w) : Does P V w ρ o := by
  unfold Does; simp only [execOp, ho, hx, asBool, Sem.run_bind, Sem.run_pure, Result.andThen_ok, hc]; exact ⟨hV, Below.refl _ _⟩
theorem d_bin {op : BinOp} {T yT : TypeId} {x y : Operand} {cx cy : Value} (ho : o.op = .binOp op T x y yT) (hx : ρ x = cx) (hy : ρ y = cy)
    (hg : (eqGuard op T x y cx cy).run P w = .ok () w) (hr : (binOp op T cx cy).run P w = .ok c w) (hV : V c w) : Does P V w ρ o := by
  unfold Does; simp only [execOp, ho, hx, hy, Sem.run_bind, hg, hr, Sem.run_pure, Result.andThen_ok]; exact ⟨hV, Below.refl _ _⟩
theorem d_un {op : UnOp} {T : TypeId} {x : Operand} {cx : Value} (ho : o.op = .unOp op T x) (hx : ρ x = cx) (hr : (Op.unary op cx).run P w = .ok c w) (hV : V c w) : Does P V w ρ o := by
  unfold Does; simp only [execOp, ho, hx, Sem.run_bind, hr, Sem.run_pure, Result.andThen_ok]; exact ⟨hV, Below.refl _ _⟩
theorem d_conv {src dst : TypeId} {x : Operand} {cx : Value} {w' : World} (ho : o.op = .convert src dst x) (hx : ρ x = cx) (hr : (convert src dst cx).run P w = .ok c w') (hg : Grow w w') (hV : V c w') : Does P V w ρ o := by
  unfold Does; simp only [execOp, ho, hx, Sem.run_bind, hr, Sem.run_pure, Result.andThen_ok]; exact ⟨hV, hg⟩
theorem d_load {T : TypeId} {x : Operand} {cx : Value} (ho : o.op = .load T x) (hx : ρ x = cx) (hr : (Instr.loadAt T cx).run P w = .ok c w) (hV : V c w) : Does P V w ρ o := by
  unfold Does; simp only [execOp, ho, hx, Sem.run_bind, hr, Sem.run_pure, Result.andThen_ok]; exact ⟨hV, Below.refl _ _⟩
theorem d_slice {T : TypeId} {x : Operand} {lo hi mx : Option Operand} {cx : Value} {clo chi cmx : Option Value} (ho : o.op = .slice T x lo hi mx) (hx : ρ x = cx) (hlo : lo.map ρ = clo) (hhi : hi.map ρ = chi) (hmx : mx.map ρ = cmx)
    (hr : (Instr.sliceAt T cx clo chi cmx).run P w = .ok c w) (hV : V c w) : Does P V w ρ o := by
  unfold Does; simp only [execOp, ho, hx, hlo, hhi, hmx, Sem.run_bind, hr, Sem.run_pure, Result.andThen_ok]; exact ⟨hV, Below.refl _ _⟩
theorem d_extract {x : Operand} {k : Nat} {cx : Value} (ho : o.op = .extract x k) (hx : ρ x = cx) (hr : (Instr.extract cx k).run P w = .ok c w) (hV : V c w) : Does P V w ρ o := by
  unfold Does; simp only [execOp, ho, hx, Sem.run_bind, hr, Sem.run_pure, Result.andThen_ok]; exact ⟨hV, Below.refl _ _⟩
theorem d_indexAddr {T : TypeId} {x y : Operand} {cx cy : Value} (ho : o.op = .indexAddr T x y) (hx : ρ x = cx) (hy : ρ y = cy) (hr : (Instr.indexAt T cx cy).run P w = .ok c w) (hV : V c w) : Does P V w ρ o := by
  unfold Does; simp only [execOp, ho, hx, hy, Sem.run_bind, hr, Sem.run_pure, Result.andThen_ok]; exact ⟨hV, Below.refl _ _⟩
theorem d_index {T : TypeId} {x y : Operand} {cx cy : Value} (ho : o.op = .index T x y) (hx : ρ x = cx) (hy : ρ y = cy) (hr : (Instr.index T cx cy).run P w = .ok c w) (hV : V c w) : Does P V w ρ o := by
  unfold Does; simp only [execOp, ho, hx, hy, Sem.run_bind, hr, Sem.run_pure, Result.andThen_ok]; exact ⟨hV, Below.refl _ _⟩
theorem d_len {T : TypeId} {x : Operand} {A : Option Addr} {n k : Nat} {e : TypeId} (ho : o.op = .call { callee := .builtin .len, args := #[x], argTypes := #[T] }) (hu : P.underlying T = some (.slice e)) (hx : ρ x = .slice A n k) (hV : V (.int .i64 n) w) : Does P V w ρ o := by
  have hr : ((execOp ρ o).run P w) = .ok (.value (.int .i64 n)) w := by
    have hue : P.elem T = e := by simp [Program.elem, hu]
    have hl := run_len_slice (P := P) w T o.type A n k (by rw [hue]; exact hu)
    simp [execOp, ho, hx, resolve, invoke, builtin, hl, goInt]
  unfold Does; rw [hr]; exact ⟨hV, Below.refl _ _⟩
theorem d_call {f : FuncId} {fn : Func} {xs : Array Operand} {ts : Array TypeId} {args : Array Value} (hfn : P.funcs[f]? = some fn) (hname : (fn.name == "runtime.NumGoroutine") = false) (hbody : fn.body.isNone = false)
    (ho : o.op = .call { callee := .value (.func f), args := xs, argTypes := ts }) (hf : ρ (.func f) = .func (.func f) #[] #[]) (hx : xs.map ρ = args)
    (hc : Calls P f args w fun e w'' => ∃ v, e = .returned v ∧ V v w'' ∧ Grow w w'') : Does P V w ρ o := by
  have hr : ((execOp ρ o).run P w) = .ok (.enter f args) w := by
    have hn : ¬ fn.name = "runtime.NumGoroutine" := by simpa using hname
    have hb : ¬ fn.body = none := fun e => by rw [e] at hbody; cases hbody
    have h1 : (callFunc f args).run P w = .ok (.enter f args) w := by simp [callFunc, hfn, hn, hb]
    simp [execOp, ho, hx, hf, resolve, invoke, Deferred.ofValue, h1]
  unfold Does; rw [hr]; exact ⟨Below.refl _ _, hc⟩
theorem d_build {T : TypeId} {len : Nat} {parts : Array (Nat × Operand)} {vs : Array (Nat × Value)} {w' : World} (ho : o.op = .buildSlice T len parts) (hx : (parts.map fun (i, x) => (i, ρ x)) = vs) (hr : (Instr.buildSlice T len vs).run P w = .ok c w') (hg : Grow w w') (hV : V c w') : Does P V w ρ o := by
  unfold Does; simp only [execOp, ho, hx, Sem.run_bind, hr, Sem.run_pure, Result.andThen_ok]; exact ⟨hV, hg⟩
theorem parts1 {x : Operand} {c : Value} {k : Nat} (h : ρ x = c) : ((#[(k, x)] : Array (Nat × Operand)).map fun (i, x) => (i, ρ x)) = #[(k, c)] := by simp [h]
theorem parts2 {x y : Operand} {c d : Value} (h : ρ x = c) (h2 : ρ y = d) : ((#[(0, x), (1, y)] : Array (Nat × Operand)).map fun (i, x) => (i, ρ x)) = #[(0, c), (1, d)] := by simp [h, h2]
theorem parts4 {x y z u : Operand} {c d e f : Value} (h : ρ x = c) (h2 : ρ y = d) (h3 : ρ z = e) (h4 : ρ u = f) : ((#[(0, x), (1, y), (2, z), (3, u)] : Array (Nat × Operand)).map fun (i, x) => (i, ρ x)) = #[(0, c), (1, d), (2, e), (3, f)] := by simp [h, h2, h3, h4]
end words
end Free
/-- &x[i] of a slice at a known place. -/
theorem run_idx {P : Program} {w : World} (T : TypeId) {e : TypeId} (hu : P.underlying T = some (.slice e)) (he : (P.info? (P.elem T)).map (·.size) = some 1) (b off n c i : Nat) (z : Int) (hz : z = (i : Int)) (hi : i < n) :
    (Instr.indexAt T (.slice (some ⟨b, off, none⟩) n c) (.int .i64 z)).run P w = .ok (.pointer (some ⟨b, off + i, none⟩)) w := by
  subst hz
  have hue : P.elem T = e := by simp [Program.elem, hu]
  rw [run_indexAt_slice w T _ n c .i64 _ (by rw [hue]; exact hu), if_pos ⟨by omega, by omega⟩, run_sizeOf_of _ 1 he, Result.andThen_ok, Int.toNat_natCast, Nat.mul_one]
  by_cases h0 : i = 0
  · subst h0; simp [Addr.add]
  · simp [Addr.add, h0]
end Go.Proofs.YtoiilhbjlfdfpaaDoor
