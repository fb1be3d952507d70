/- Texts and lists are read: getText, getList, start, Done, ReadNum, ReadText, ReadList. No statement of the seat is proved here. -/
import Derived.Test.YtoiilhbjlfdfpaaDoorCode2
import Derived.Test.YtoiilhbjlfdfpaaDoorCode3
namespace Go.Proofs.YtoiilhbjlfdfpaaDoor
set_option linter.unusedVariables false
open Go.RowKit

theorem scan_err : ∀ (b : List UInt8) (n acc x : Nat), Code.scan b n acc = .error x → x = 2 ∨ x = 4
  | [], n, acc, x, h => by
    unfold Code.scan at h
    split at h <;> (injection h with h; omega)
  | c :: t, n, acc, x, h => by
    rw [Code.scan] at h
    split at h
    · injection h with h; omega
    · split at h
      · cases h
      · exact scan_err t _ _ x h
theorem getNum_err {b : List UInt8} {x : Nat} (h : Code.getNum b = .error x) : x = 2 ∨ x = 4 := by
  unfold Code.getNum Code.fin at h
  generalize hs : Code.scan b 0 0 = r at h
  rcases r with e | ⟨v, m, c⟩
  · injection h with h
    subst h
    exact scan_err b 0 0 _ hs
  · simp only at h
    split at h
    · injection h with h; omega
    · cases h
theorem getText_err {most : Int} {b : List UInt8} {x : Nat} (h : Code.getText most b = .error x) : x = 2 ∨ x = 4 := by
  unfold Code.getText at h
  generalize hs : Code.getNum b = r at h
  rcases r with e | ⟨n, m⟩
  · injection h with h
    subst h
    exact getNum_err hs
  · simp only at h
    split at h
    · injection h with h; omega
    · split at h
      · injection h with h; omega
      · cases h
def GetTextRet (at_ : Nat) (e : Ending) : Except Nat (List UInt8 × Nat) → Prop
  | .ok (s, k) => e = .returned (.tuple #[sv s, .int .i64 ((at_ + k : Nat) : Int), .int .i64 0])
  | .error x => e = .returned (.tuple #[.string { data := #[] }, .int .i64 0, .int .i64 (x : Int)])
def GetTextPost (l : List UInt8) (at_ : Nat) (most : Int) (w : World) (e : Ending) (w' : World) : Prop := GetTextRet at_ e (Code.getText most (l.drop at_)) ∧ w = w'
theorem getText_ret {l : List UInt8} {at_ : Nat} {most : Int} {w : World} {e : Ending} {r : Except Nat (List UInt8 × Nat)} (h : Code.getText most (l.drop at_) = r) (he : GetTextRet at_ e r) : GetTextPost l at_ most w e w := ⟨by rw [h]; exact he, rfl⟩
/-- A slice of texts that is the call's own. -/
structure OwnS (w : World) (B : Nat) (A : Option Addr) (n c : Nat) (l : List (List UInt8)) : Prop where
  own : w.ownsRow B 9 1 (.slice A n c) n (l.map sv)
  len : l.length = n
  cap : n ≤ c
  max : c ≤ maxLen
section
variable {w w' : World} {B B' n c : Nat} {A : Option Addr} {l : List (List UInt8)}
theorem OwnS.keep (h : OwnS w B A n c l) (hb : Below w.heap.size w w') : OwnS w' B A n c l := ⟨own_keep h.own hb (Nat.le_refl _), h.len, h.cap, h.max⟩
theorem OwnS.base (h : OwnS w B A n c l) (hB : B' ≤ B) : OwnS w B' A n c l := ⟨own_base h.own hB, h.len, h.cap, h.max⟩
theorem OwnS.ss (h : OwnS w B A n c l) : Ss w A n c l := ⟨Rd.of_own h.own, h.len, h.cap, h.max⟩
theorem OwnS.nil (w : World) (B : Nat) : OwnS w B none 0 0 [] := ⟨own_nil _ _ _ _, rfl, Nat.le_refl _, Nat.zero_le _⟩
theorem info_str : (Tryd.prog.info? 9).map (fun i => (i.zero, i.size, i.bytes)) = some (some (.string ByteArray.empty), 1, 16) := by kernel_rfl
theorem strsT : ElemT Tryd.prog 22 9 1 16 := ElemT.mk' Tryd.underlying22 info_str rfl (by omega)
theorem one_s (l : List (List UInt8)) : ∀ u ∈ l.map sv, u.oneCell' = true := fun u hu => by
  obtain ⟨x, _, rfl⟩ := List.mem_map.1 hu
  rfl
end
section
variable {ops : Array Oper} {rest : List Oper} {o : Oper} {a : Act} {Q : Exit → Act → World → Prop} {w : World}
/-- append(v, s): one text. -/
theorem wl_appS1 (hgd : o.guard = none) (s x : Operand) (ho : o.op = .call { callee := .builtin .append, args := #[s, x], argTypes := #[22, 22] })
    {w0 : World} {B : Nat} {A : Option Addr} {n c : Nat} {l : List (List UInt8)} (hs : a.eval s = .slice A n c) (h1 : OwnS w0 B A n c l)
    (hx : a.eval x = .slice (some ⟨w0.heap.size, 0, none⟩) 1 1) (b : List UInt8) (hsz : n ≤ 1000000000000) (hB : B ≤ w0.heap.size)
    (h : ∀ A' n' c' w', OwnS w' B A' n' c' (l ++ [b]) → Below B w0 w' → wpList Tryd.prog ops Q rest (a.put o.dst (.slice A' n' c')) w') : wpList Tryd.prog ops Q (o :: rest) a (w0.alloc (.cells #[sv b] 9)) := by
  have hb0 : Below w0.heap.size w0 (w0.alloc (.cells #[sv b] 9)) := (Below.refl _ w0).alloc (Nat.le_refl _) _
  refine wl_app hgd s x 22 ho B 9 1 16 strsT _ n _ hs (h1.keep hb0).own (w0.heap.size + 1) (some ⟨w0.heap.size, 0, none⟩) 1 1 [sv b] hx (rd_new w0 [sv b] 9 (0, 0)) rfl (by simp [Value.oneCell']) (by rw [maxLen_eq]; omega) (by omega) (Nat.le_trans hB hb0.size) fun A' c' w' g1 g2 _ g4 g5 g6 => ?_
  exact h A' (n + 1) c' w' ⟨by rw [List.map_append]; exact g1, by rw [List.length_append, h1.len]; rfl, g5, g6⟩ ((hb0.mono hB).trans g4)
end
/-- Where the reading of a list is. -/
structure ItemsRel (l : List UInt8) (most : Int) (cnt at0 i : Nat) (ss : List (List UInt8)) (at' : Nat) : Prop where
  eq : Code.items most cnt (l.drop at0) = (match Code.items most (cnt - i) (l.drop at') with
    | .ok (ts, m) => .ok (ss ++ ts, at' - at0 + m)
    | .error x => .error x)
  lo : at0 ≤ at'
  hi : at' ≤ l.length
  few : i ≤ at' - at0
  le : i ≤ cnt
  len : ss.length = i
theorem ItemsRel.step {l : List UInt8} {most : Int} {cnt at0 i : Nat} {ss : List (List UInt8)} {at' : Nat} (h : ItemsRel l most cnt at0 i ss at') (hi : i < cnt) {s : List UInt8} {k : Nat} (hg : Code.getText most (l.drop at') = .ok (s, k)) :
    ItemsRel l most cnt at0 (i + 1) (ss ++ [s]) (at' + k) := by
  obtain ⟨_, hk1, hk, _⟩ := Code.getText_ok hg
  rw [List.length_drop] at hk
  have h1 := h.lo
  have h2 := h.hi
  have h3 := h.few
  refine ⟨?_, by omega, by omega, by omega, by omega, by rw [List.length_append, h.len]; rfl⟩
  rw [h.eq]
  obtain ⟨q, hq⟩ : ∃ q, cnt - i = q + 1 := ⟨cnt - i - 1, by omega⟩
  rw [hq, show cnt - (i + 1) = q by omega, Code.items, hg]
  simp only [List.drop_drop]
  cases Code.items most q (l.drop (at' + k)) with
  | error x => rfl
  | ok r =>
    obtain ⟨ts, m⟩ := r
    simp only [List.append_assoc, List.singleton_append]
    congr 2
    omega
theorem ItemsRel.bad {l : List UInt8} {most : Int} {cnt at0 i : Nat} {ss : List (List UInt8)} {at' : Nat} (h : ItemsRel l most cnt at0 i ss at') (hi : i < cnt) {x : Nat} (hg : Code.getText most (l.drop at') = .error x) :
    Code.items most cnt (l.drop at0) = .error x := by
  rw [h.eq]
  obtain ⟨q, hq⟩ : ∃ q, cnt - i = q + 1 := ⟨cnt - i - 1, by omega⟩
  rw [hq, Code.items, hg]
theorem ItemsRel.all {l : List UInt8} {most : Int} {cnt at0 : Nat} {ss : List (List UInt8)} {at' : Nat} (h : ItemsRel l most cnt at0 cnt ss at') : Code.items most cnt (l.drop at0) = .ok (ss, at' - at0) := by
  rw [h.eq, Nat.sub_self, Code.items]; simp
def GetListRet (at_ : Nat) (B : Nat) (w' : World) (e : Ending) : Except Nat (List (List UInt8) × Nat) → Prop
  | .ok (ss, k) => ∃ A n c, e = .returned (.tuple #[.slice A n c, .int .i64 ((at_ + k : Nat) : Int), .int .i64 0]) ∧ OwnS w' B A n c ss
  | .error x => e = .returned (.tuple #[.slice none 0 0, .int .i64 0, .int .i64 (x : Int)]) ∧ (x = 2 ∨ x = 4)
def GetListPost (l : List UInt8) (at_ : Nat) (many most : Int) (w : World) (e : Ending) (w' : World) : Prop := GetListRet at_ w.heap.size w' e (Code.getList many most (l.drop at_)) ∧ Below w.heap.size w w'
theorem getList_ret {l : List UInt8} {at_ : Nat} {many most : Int} {w w' : World} {e : Ending} {r : Except Nat (List (List UInt8) × Nat)} (h : Code.getList many most (l.drop at_) = r) (he : GetListRet at_ w.heap.size w' e r) (hb : Below w.heap.size w w') : GetListPost l at_ many most w e w' := ⟨by rw [h]; exact he, hb⟩
def StartPost (at_ x : Int) (l : List UInt8) (w : World) (e : Ending) (w' : World) : Prop := ∃ A n c, e = .returned (rv A n c at_ x) ∧ Own8 w' w.heap.size A n c l ∧ Below w.heap.size w w'
end Go.Proofs.YtoiilhbjlfdfpaaDoor
