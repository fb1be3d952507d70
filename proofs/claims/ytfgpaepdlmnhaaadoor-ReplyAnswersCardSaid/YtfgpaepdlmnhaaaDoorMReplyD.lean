/- MReplyD: several texts of this claim in one file. No statement of the seat is proved here. -/
import Derived.Test.YtfgpaepdlmnhaaaDoorMReplyC
import Derived.BigQuiet
import Derived.Test.YtfgpaepdlmnhaaaDoorMShaC
import Derived.Test.YtfgpaepdlmnhaaaDoorMBase
import Derived.ChangeArms
import Derived.DataReads
import Derived.SliceStrings
import Derived.ChangeSame
import Derived.Deep.Strs
import Derived.Lib.SmallJoins
namespace Go.Proofs.YtfgpaepdlmnhaaaDoor
set_option maxRecDepth 100000
set_option linter.unusedVariables false
namespace Hd
theorem drop_add {l x r : By} {a : Nat} (h : l.drop a = x ++ r) : l.drop (a + x.length) = r := by rw [← List.drop_drop, h, List.drop_left]
theorem stNum_of {l r : By} {a v : Nat} (h : l.drop a = Code.num v ++ r) (hv : v ≤ 4611686018427387904) : stNum l ⟨a, 0⟩ = (⟨a + (Code.num v).length, 0⟩, v) := by
  unfold stNum
  simp only [if_true]
  rw [h, Code.getNum_num v r hv]
theorem stText_of {l r s : By} {a : Nat} {most : Int} (h : l.drop a = Code.text s ++ r) (hs : (s.length : Int) ≤ most) (h2 : s.length ≤ 4611686018427387904) : stText l most ⟨a, 0⟩ = (⟨a + (Code.text s).length, 0⟩, s) := by
  unfold stText
  simp only [if_true]
  rw [h, Code.getText_text most s r hs h2]
theorem stDig_of {l r d : By} {a : Nat} (h : l.drop a = d ++ r) (hd : d.length = 32) : stDig l ⟨a, 0⟩ = (⟨a + 32, 0⟩, d) := by
  have h1 : (l.drop a).length = 32 + r.length := by rw [h, List.length_append, hd]
  rw [List.length_drop] at h1
  unfold stDig
  simp only [if_true]
  rw [if_neg (by omega), List.drop_take, show a + 32 - a = 32 by omega, h, ← hd, List.take_left]
theorem stSg_of {l r : By} {a : Nat} {s : Sg} (ok : s.Ok) (h : l.drop a = s.bytes ++ r) : stSg l ⟨a, 0⟩ s.fr = (⟨a + s.bytes.length, 0⟩, s) := by
  have h1 : l.drop a = Code.num s.to.toNat ++ (Code.num s.lk.toNat ++ (s.rt ++ r)) := by rw [h]; unfold Sg.bytes; simp
  have e1 := stNum_of h1 (by have := ok.to1; omega)
  have h2 := drop_add h1
  have e2 := stNum_of h2 (by have := ok.lk1; omega)
  have h3 := drop_add h2
  have e3 := stDig_of h3 ok.rt
  unfold stSg
  simp only [e1, e2, e3]
  have t1 : (s.to.toNat : Int) = s.to := Int.toNat_of_nonneg ok.to0
  have t2 : (s.lk.toNat : Int) = s.lk := Int.toNat_of_nonneg ok.lk0
  rw [t1, t2]
  have t3 : s.bytes.length = (Code.num s.to.toNat).length + ((Code.num s.lk.toNat).length + 32) := by unfold Sg.bytes; rw [List.length_append, List.length_append, ok.rt]
  rw [t3, show a + (Code.num s.to.toNat).length + (Code.num s.lk.toNat).length + 32 = a + ((Code.num s.to.toNat).length + ((Code.num s.lk.toNat).length + 32)) by omega]
def begF (a : Int) (l : List Sg) : Nat → Int
  | 0 => a
  | k + 1 => match l[k]? with
    | some s => s.to
    | none => 0
theorem row_fr : ∀ (l : List Sg) (a size : Int), rowFrom l a size = true → ∀ (k : Nat) (s : Sg), l[k]? = some s → s.fr = begF a l k
  | [], _, _, _, k, s, hs => by simp at hs
  | s0 :: l, a, size, h, k, s, hs => by
    unfold rowFrom at h
    simp only [Bool.and_eq_true, decide_eq_true_eq] at h
    cases k with
    | zero => simp only [List.getElem?_cons_zero, Option.some.injEq] at hs; subst hs; exact h.1
    | succ k =>
      rw [List.getElem?_cons_succ] at hs
      have := row_fr l s0.to size h.2.2 k s hs
      rw [this]
      cases k with
      | zero => rfl
      | succ k => simp only [begF, List.getElem?_cons_succ]
theorem stK_of {l : By} {a : Nat} {L : List Sg} (hok : ∀ s ∈ L, s.Ok) (hfr : ∀ (k : Nat) (s : Sg), L[k]? = some s → s.fr = begF 0 L k) {r : By} (h : l.drop a = L.flatMap Sg.bytes ++ r) : ∀ k, k ≤ L.length → stK l ⟨a, 0⟩ k = (⟨a + ((L.take k).flatMap Sg.bytes).length, 0⟩, begF 0 L k, L.take k)
  | 0, _ => by simp [stK, begF]
  | k + 1, hk => by
    have ih := stK_of hok hfr h k (by omega)
    have hs : L[k]? = some L[k] := List.getElem?_eq_getElem (by omega)
    have hd : l.drop (a + ((L.take k).flatMap Sg.bytes).length) = L[k].bytes ++ ((L.drop (k + 1)).flatMap Sg.bytes ++ r) := by
      refine drop_add (x := (L.take k).flatMap Sg.bytes) ?_
      rw [h]
      conv => lhs; rw [← List.take_append_drop k L]
      rw [List.flatMap_append, List.drop_eq_getElem_cons (by omega : k < L.length), List.flatMap_cons]
      simp
    have e := stSg_of (hok L[k] (List.getElem_mem _)) hd
    rw [hfr k _ hs] at e
    unfold stK
    rw [ih]
    simp only [e]
    have ht : L.take (k + 1) = L.take k ++ [L[k]] := by rw [List.take_add_one, hs]; rfl
    rw [ht]
    simp only [begF, hs, List.flatMap_append, List.flatMap_cons, List.flatMap_nil, List.append_nil, List.length_append]
    rw [show a + ((L.take k).flatMap Sg.bytes).length + L[k].bytes.length = a + (((L.take k).flatMap Sg.bytes).length + L[k].bytes.length) by omega]
theorem rdHd_bytes {h : H} (k : h.ok = true) : rdHd h.bytes = .ok h := by
  have ok := H.ok_iff k
  have hrow : rowFrom h.segs 0 h.size = true := by
    unfold H.ok row at k
    simp only [Bool.and_eq_true, decide_eq_true_eq] at k
    exact k.2.2.2.2
  have h0 : h.bytes.drop 0 = Code.num h.size.toNat ++ (h.log ++ (Code.num h.segs.length ++ (h.segs.flatMap Sg.bytes ++ []))) := by unfold H.bytes; simp
  have e1 := stNum_of h0 (by have := ok.sz1; omega)
  have h1 := drop_add h0
  have e2 := stDig_of h1 ok.log
  have h2 := drop_add h1
  rw [ok.log] at h2
  have e3 := stNum_of h2 (by have := ok.few; omega)
  have h3 := drop_add h2
  have e4 := stK_of ok.all (row_fr _ _ _ hrow) h3 h.segs.length (Nat.le_refl _)
  rw [List.take_length] at e4
  have h4 := drop_add h3
  have hlen := congrArg List.length h4
  rw [List.length_drop, List.length_nil] at hlen
  have t1 : (h.size.toNat : Int) = h.size := Int.toNat_of_nonneg ok.sz0
  rw [Nat.zero_add] at e1
  unfold rdHd
  rw [Nat.zero_add] at *
  simp only [e1, e2, e3, e4]
  rw [if_neg (by have := ok.few; omega)]
  have hd : doneX h.bytes ⟨(Code.num h.size.toNat).length + 32 + (Code.num h.segs.length).length + (h.segs.flatMap Sg.bytes).length, 0⟩ = 0 := by
    unfold doneX
    simp only [ne_eq, not_true, if_false]
    rw [if_neg (by omega)]
  rw [hd]
  simp only [ne_eq, not_true, if_false, t1]
  rw [if_pos k]
end Hd
end Go.Proofs.YtfgpaepdlmnhaaaDoor

namespace Go.Proofs.YtfgpaepdlmnhaaaDoor
set_option maxRecDepth 100000
set_option linter.unusedVariables false
namespace Hd
theorem bytes_le {h : H} (k : h.ok = true) : h.bytes.length ≤ 10000 := by rw [← H.till_all rfl]; exact H.till_len (H.ok_iff k) _
theorem stHead_of {l r : By} {a : Nat} {h : H} (k : h.ok = true) (e : l.drop a = Code.text h.bytes ++ r) : stHead l ⟨a, 0⟩ = (⟨a + (Code.text h.bytes).length, 0⟩, h) := by
  have hl := bytes_le k
  have e1 := stText_of (most := 10000) e (by omega) (by omega)
  unfold stHead
  rw [e1]
  simp only [ne_eq, not_true, if_false, rdHd_bytes k]
theorem all32_iff {L : List By} : Tree.all32 L = true ↔ ∀ d ∈ L, d.length = 32 := by unfold Tree.all32; simp
theorem stDK_of {l r : By} {a : Nat} {L : List By} (h32 : ∀ d ∈ L, d.length = 32) (h : l.drop a = L.flatten ++ r) : ∀ k, k ≤ L.length → stDK l ⟨a, 0⟩ k = (⟨a + (L.take k).flatten.length, 0⟩, L.take k)
  | 0, _ => by simp [stDK]
  | k + 1, hk => by
    have ih := stDK_of h32 h k (by omega)
    have hs : L[k]? = some L[k] := List.getElem?_eq_getElem (by omega)
    have hd : l.drop (a + (L.take k).flatten.length) = L[k] ++ ((L.drop (k + 1)).flatten ++ r) := by
      refine drop_add (x := (L.take k).flatten) ?_
      rw [h]
      conv => lhs; rw [← List.take_append_drop k L]
      rw [List.flatten_append, List.drop_eq_getElem_cons (by omega : k < L.length), List.flatten_cons]
      simp
    have hl := h32 L[k] (List.getElem_mem _)
    have e := stDig_of hd hl
    unfold stDK
    rw [ih]
    simp only [e]
    have ht : L.take (k + 1) = L.take k ++ [L[k]] := by rw [List.take_add_one, hs]; rfl
    rw [ht, List.flatten_append, List.length_append, List.flatten_cons, List.flatten_nil, List.append_nil, hl, Nat.add_assoc]
theorem stPath_of {l r : By} {a : Nat} {L : List By} (k : pathsOk L = true) (h : l.drop a = pathB L ++ r) : stPath l ⟨a, 0⟩ = (⟨a + (pathB L).length, 0⟩, L) := by
  unfold pathsOk at k
  simp only [Bool.and_eq_true, decide_eq_true_eq] at k
  have h1 : l.drop a = Code.num L.length ++ (L.flatten ++ r) := by rw [h]; unfold pathB; simp
  have e1 := stNum_of h1 (by have := k.1; omega)
  have h2 := drop_add h1
  have e2 := stDK_of (all32_iff.1 k.2) h2 L.length (Nat.le_refl _)
  rw [List.take_length] at e2
  unfold stPath stCount
  simp only [e1]
  rw [if_neg (by have := k.1; omega), e2]
  unfold pathB
  rw [List.length_append, Nat.add_assoc]
theorem wr_bytes {h : H} : h.wr = if h.ok = true then some h.bytes else none := rfl
theorem wHead_ok (s : WS) {h : H} (k : h.ok = true) : wHead s h = ⟨s.l ++ Code.text h.bytes, s.bad⟩ := by
  unfold wHead
  rw [wr_bytes, if_pos k]
  simp only [wText]
  rw [if_neg (by have := bytes_le k; omega)]
theorem wHead_bad (s : WS) (h : H) : (wHead s h).bad = (s.bad || !h.ok) := by
  cases k : h.ok with
  | true => rw [wHead_ok s k]; simp
  | false => unfold wHead; rw [wr_bytes, k]; simp
theorem wNum_ok (s : WS) {v : Int} (h : 0 ≤ v ∧ v ≤ 4611686018427387904) : wNum s v = ⟨s.l ++ Code.num v.toNat, s.bad⟩ := by unfold wNum; rw [if_pos h]
theorem wNum_bad (s : WS) (v : Int) : (wNum s v).bad = (s.bad || !(decide (0 ≤ v) && decide (v ≤ 4611686018427387904))) := by
  unfold wNum
  by_cases h1 : 0 ≤ v <;> by_cases h2 : v ≤ 4611686018427387904 <;> simp [h1, h2]
theorem wText_ok (s : WS) {b : By} {m : Nat} (h : b.length ≤ m) : wText s b m = ⟨s.l ++ Code.text b, s.bad⟩ := by unfold wText; rw [if_neg (by omega)]
theorem wText_bad (s : WS) (b : By) (m : Nat) : (wText s b m).bad = (s.bad || !decide (b.length ≤ m)) := by
  unfold wText
  by_cases h : m < b.length
  · rw [if_pos h]; simp; omega
  · rw [if_neg h]; simp; omega
theorem wDigs_ok : ∀ (L : List By) (s : WS), Tree.all32 L = true → wDigs s L = ⟨s.l ++ L.flatten, s.bad⟩
  | [], s, _ => by simp [wDigs]
  | d :: L, s, h => by
    have h1 := all32_iff.1 h
    rw [wDigs, if_pos (h1 d (List.mem_cons_self ..)), wDigs_ok L _ (all32_iff.2 fun x hx => h1 x (List.mem_cons_of_mem _ hx))]
    simp
theorem wDigs_bad : ∀ (L : List By) (s : WS), (wDigs s L).bad = (s.bad || !Tree.all32 L)
  | [], s => by simp [wDigs, Tree.all32]
  | d :: L, s => by
    rw [wDigs]
    by_cases h : d.length = 32
    · rw [if_pos h, wDigs_bad L]; simp [Tree.all32, h]
    · rw [if_neg h]; simp [Tree.all32, h]
theorem wPath_ok (s : WS) {L : List By} (k : pathsOk L = true) : wPath s L = ⟨s.l ++ pathB L, s.bad⟩ := by
  unfold pathsOk at k
  simp only [Bool.and_eq_true, decide_eq_true_eq] at k
  unfold wPath
  rw [if_neg (by have := k.1; omega), wDigs_ok _ _ k.2, wNum_ok s ⟨by omega, by have := k.1; omega⟩]
  unfold pathB
  rw [Int.toNat_natCast, List.append_assoc]
theorem wPath_bad (s : WS) (L : List By) : (wPath s L).bad = (s.bad || !pathsOk L) := by
  unfold wPath pathsOk
  by_cases h : 64 < L.length
  · rw [if_pos h]; simp; exact .inr (.inl h)
  · rw [if_neg h, wDigs_bad, wNum_bad]
    simp only [show (0 : Int) ≤ (L.length : Int) by omega, show (L.length : Int) ≤ 4611686018427387904 by omega, show L.length ≤ 64 by omega, decide_true, Bool.and_self, Bool.not_true, Bool.or_false, Bool.true_and]
theorem pathB_len {L : List By} (k : pathsOk L = true) : (pathB L).length ≤ 2057 := by
  unfold pathsOk at k
  simp only [Bool.and_eq_true, decide_eq_true_eq] at k
  unfold pathB
  have h1 := Code.num_len9 L.length (by have := k.1; omega)
  have h2 := flatten_le L 32 (fun d hd => by rw [all32_iff.1 k.2 d hd]; omega)
  rw [List.length_append]
  have := k.1
  omega
theorem text_le {s : By} {m : Nat} (h : s.length ≤ m) (hm : m ≤ 1000000) : (Code.text s).length ≤ m + 9 := by
  have := text_len s (by omega)
  omega
theorem num_int {v : Int} (h : 0 ≤ v) : ((v.toNat : Nat) : Int) = v := Int.toNat_of_nonneg h
theorem Pg.fair_iff {p : Pg} : p.fair = true ↔ p.h.ok = true ∧ (0 ≤ p.at_ ∧ p.at_ ≤ 4611686018427387904) ∧ p.doc.length ≤ 2000 ∧ pathsOk p.path = true := by
  unfold Pg.fair
  simp only [Bool.and_eq_true, decide_eq_true_eq, and_assoc]
theorem wrPage_no {p : Pg} (h : p.fair = false) : wrPage p = .error 1 := by
  unfold wrPage wEnd
  rw [wPath_bad, wText_bad, wNum_bad, wHead_bad]
  unfold Pg.fair at h
  rw [if_pos]
  revert h
  generalize p.h.ok = a
  generalize decide (0 ≤ p.at_) = b
  generalize decide (p.at_ ≤ 4611686018427387904) = c
  generalize decide (p.doc.length ≤ 2000) = d
  generalize pathsOk p.path = e
  cases a <;> cases b <;> cases c <;> cases d <;> cases e <;> simp
theorem Pg.bytes_len {p : Pg} (h : p.fair = true) : p.bytes.length ≤ 20000 := by
  obtain ⟨h1, h2, h3, h4⟩ := Pg.fair_iff.1 h
  unfold Pg.bytes
  have a1 := text_le (bytes_le h1) (by omega)
  have a2 := Code.num_len9 p.at_.toNat (by omega)
  have a3 := text_le h3 (by omega)
  have a4 := pathB_len h4
  simp only [List.length_append, List.length_cons, List.length_nil]
  omega
theorem wrPage_ok {p : Pg} (h : p.fair = true) : wrPage p = .ok p.bytes := by
  have hl := Pg.bytes_len h
  obtain ⟨h1, h2, h3, h4⟩ := Pg.fair_iff.1 h
  unfold wrPage
  rw [wHead_ok _ h1, wNum_ok _ h2, wText_ok _ h3, wPath_ok _ h4]
  show wEnd ⟨p.bytes, false⟩ = _
  unfold wEnd
  simp only [Bool.false_eq_true, if_false]
  rw [if_neg (by omega)]
theorem rdPage_bytes {p : Pg} (h : p.fair = true) : rdPage p.bytes = .ok p := by
  have hl := Pg.bytes_len h
  obtain ⟨h1, h2, h3, h4⟩ := Pg.fair_iff.1 h
  have hb : begX p.bytes 2 = 0 := by
    unfold begX
    rw [if_neg (by omega)]
    unfold Pg.bytes
    rfl
  have d0 : p.bytes.drop 1 = Code.text p.h.bytes ++ (Code.num p.at_.toNat ++ (Code.text p.doc ++ (pathB p.path ++ []))) := by unfold Pg.bytes; simp
  have e0 := stHead_of h1 d0
  have d1 := drop_add d0
  have e1 := stNum_of d1 (by omega)
  have d2 := drop_add d1
  have e2 := stText_of (most := 2000) d2 (by omega) (by omega)
  have d3 := drop_add d2
  have e3 := stPath_of h4 d3
  have d4 := drop_add d3
  have hlen := congrArg List.length d4
  rw [List.length_drop, List.length_nil] at hlen
  unfold rdPage
  rw [hb]
  simp only [ne_eq, not_true, if_false, e0, e1, e2, e3]
  rw [if_neg]
  · rw [num_int h2.1]
  · unfold doneX
    simp only [ne_eq, not_true, if_false]
    rw [if_neg (by omega)]
    simp
theorem Stp.fair_iff {p : Stp} : p.fair = true ↔ p.old.ok = true ∧ p.new.ok = true ∧ pathsOk p.proof = true := by
  unfold Stp.fair
  simp only [Bool.and_eq_true]
theorem wrStep_no {p : Stp} (h : p.fair = false) : wrStep p = .error 1 := by
  unfold wrStep wEnd
  rw [wPath_bad, wHead_bad, wHead_bad]
  unfold Stp.fair at h
  rw [if_pos]
  revert h
  generalize p.old.ok = a
  generalize p.new.ok = b
  generalize pathsOk p.proof = e
  cases a <;> cases b <;> cases e <;> simp
theorem Stp.bytes_len {p : Stp} (h : p.fair = true) : p.bytes.length ≤ 30000 := by
  obtain ⟨h1, h2, h4⟩ := Stp.fair_iff.1 h
  unfold Stp.bytes
  have a1 := text_le (bytes_le h1) (by omega)
  have a2 := text_le (bytes_le h2) (by omega)
  have a4 := pathB_len h4
  simp only [List.length_append, List.length_cons, List.length_nil]
  omega
theorem wrStep_ok {p : Stp} (h : p.fair = true) : wrStep p = .ok p.bytes := by
  have hl := Stp.bytes_len h
  obtain ⟨h1, h2, h4⟩ := Stp.fair_iff.1 h
  unfold wrStep
  rw [wHead_ok _ h1, wHead_ok _ h2, wPath_ok _ h4]
  show wEnd ⟨p.bytes, false⟩ = _
  unfold wEnd
  simp only [Bool.false_eq_true, if_false]
  rw [if_neg (by omega)]
theorem rdStep_bytes {p : Stp} (h : p.fair = true) : rdStep p.bytes = .ok p := by
  have hl := Stp.bytes_len h
  obtain ⟨h1, h2, h4⟩ := Stp.fair_iff.1 h
  have hb : begX p.bytes 3 = 0 := by
    unfold begX
    rw [if_neg (by omega)]
    unfold Stp.bytes
    rfl
  have d0 : p.bytes.drop 1 = Code.text p.old.bytes ++ (Code.text p.new.bytes ++ (pathB p.proof ++ [])) := by unfold Stp.bytes; simp
  have e0 := stHead_of h1 d0
  have d1 := drop_add d0
  have e1 := stHead_of h2 d1
  have d3 := drop_add d1
  have e3 := stPath_of h4 d3
  have d4 := drop_add d3
  have hlen := congrArg List.length d4
  rw [List.length_drop, List.length_nil] at hlen
  unfold rdStep
  rw [hb]
  simp only [ne_eq, not_true, if_false, e0, e1, e3]
  rw [if_neg]
  unfold doneX
  simp only [ne_eq, not_true, if_false]
  rw [if_neg (by omega)]
  simp
end Hd
end Go.Proofs.YtfgpaepdlmnhaaaDoor

namespace Go.Proofs.YtfgpaepdlmnhaaaDoor
set_option maxRecDepth 100000
set_option linter.unusedVariables false
open Go.RowKit
theorem bel_drewN (B : Nat) (w : World) (n : Nat) : Below B w (w.drewN n) := ⟨rfl, rfl, rfl, Nat.le_refl _, fun _ _ => rfl⟩
set_option maxRecDepth 100000 in
set_option maxHeartbeats 16000000 in
theorem same15_eq (A : Option Addr) (n c : Nat) (B : Option Addr) (k : Nat) (h : Hd.H) (w : World) (hs : Sq sgc 4 w A n c h.segs) (ht : Sq sgc 4 w B n k h.segs) : Calls Tryd.prog 57 #[.agg #[.int .i64 h.size, sv h.log, .slice A n c], .agg #[.int .i64 h.size, sv h.log, .slice B n k]] w (RetB true w) := by
  have hlen := hs.len
  have hcap := hs.cap
  have hmx := hs.max
  have hcap2 := ht.cap
  have hmx2 := ht.max
  rw [maxLen_eq] at hmx hmx2
  have h1 := (row_new w #[.int .i64 h.size, sv h.log, .slice A n c] 37).alloc (.cells #[.int .i64 h.size, sv h.log, .slice B n k] 37)
  have h2 := row_new (w.alloc (.cells #[.int .i64 h.size, sv h.log, .slice A n c] 37)) #[.int .i64 h.size, sv h.log, .slice B n k] 37
  rw [size_alloc] at h2
  have hb := ((Below.refl w.heap.size w).alloc (Nat.le_refl _) (.cells #[.int .i64 h.size, sv h.log, .slice A n c] 37)).alloc (by rw [size_alloc]; omega) (.cells #[.int .i64 h.size, sv h.log, .slice B n k] 37)
  obtain ⟨w1, hw1⟩ : ∃ W, (w.alloc (.cells #[.int .i64 h.size, sv h.log, .slice A n c] 37)).alloc (.cells #[.int .i64 h.size, sv h.log, .slice B n k] 37) = W := ⟨_, rfl⟩
  rw [hw1] at h1 h2 hb
  have HW1 := Lib.hid hw1
  have HB := Lib.hid hb
  have HS := Lib.hid (hs.keep hb)
  have HT := Lib.hid (ht.keep hb)
  have x0 := h1.cellQ 0 _ rfl
  have x1 := h1.cellQ 1 _ rfl
  have x2 := h1.cellQ 2 _ rfl
  have y0 := h2.cellQ 0 _ rfl
  have y1 := h2.cellQ 1 _ rfl
  have y2 := h2.cellQ 2 _ rfl
  have HX := Lib.hid (show ∀ W, Below w1.heap.size w1 W → W.cell? ⟨w.heap.size, 2, none⟩ = some (.slice A n c) from fun W hW => (h1.belowS hW (Nat.le_refl _)).cellQ 2 _ rfl)
  have HY := Lib.hid (show ∀ W, Below w1.heap.size w1 W → W.cell? ⟨w.heap.size + 1, 2, none⟩ = some (.slice B n k) from fun W hW => (h2.belowS hW (Nat.le_refl _)).cellQ 2 _ rfl)
  clear hs ht h1 h2 hb hw1
  go_enter Tryd.func57, Tryd.ntmps57
  go_upto_region 1 with fail
  rw [HW1.out]
  go_wp2
  go_loopw [5] (fun vi wr => ∃ (j : Nat), vi = .int .i64 (j : Int) ∧ j ≤ n ∧ Below w1.heap.size w1 wr) (fun vi _ => n - (intOf vi).toNat)
  case atStart => exact ⟨0, rfl, by omega, Below.refl _ _⟩
  case round =>
    obtain ⟨j, rfl, hj, hbw⟩ := hrel
    have HBW := Lib.hid hbw
    have x2' := HX.out wr hbw
    have y2' := HY.out wr hbw
    by_cases hlt : j < n
    · obtain ⟨b, off, sg, rfl, hbk, hsg, hcs⟩ := HS.out.at sgc_len (by omega) hlt
      obtain ⟨b2, off2, sg2, rfl, hbk2, hsg2, hcs2⟩ := HT.out.at sgc_len (by omega) hlt
      obtain rfl : sg = sg2 := by rw [hsg] at hsg2; injection hsg2
      have s0 := hcs wr hbw 0 _ rfl
      rw [Nat.add_zero] at s0
      have s1 := hcs wr hbw 1 _ rfl
      have s2 := hcs wr hbw 2 _ rfl
      have s3 := hcs wr hbw 3 _ rfl
      have t0 := hcs2 wr hbw 0 _ rfl
      rw [Nat.add_zero] at t0
      have t1 := hcs2 wr hbw 1 _ rfl
      have t2 := hcs2 wr hbw 2 _ rfl
      have t3 := hcs2 wr hbw 3 _ rfl
      clear hcs hcs2 hsg hsg2 hbw
      go_wp2_with fail
      go_quiet (fail)
      go_wp2
      go_roundw
      case rel => exact ⟨j + 1, by go_num, by omega, HBW.out.trans (bel_drewN _ _ _)⟩
      case measure => simp [intOf]; omega
    · obtain rfl : j = n := by omega
      clear hbw
      go_wp2
      go_ret
      exact ⟨rfl, bt HB.out HBW.out⟩
set_option maxRecDepth 100000 in
set_option maxHeartbeats 16000000 in
theorem same_page (pA0 : Option Addr) (n0 pc0 : Nat) (pA1 : Option Addr) (n1 pc1 : Nat) (pA2 : Option Addr) (n2 pc2 : Nat) (qA0 : Option Addr) (qc0 : Nat) (qA1 : Option Addr) (qc1 : Nat) (qA2 : Option Addr) (qc2 : Nat) (p : Hd.Pg) (w : World) (hp : At_page w pA0 n0 pc0 pA1 n1 pc1 pA2 n2 pc2 p) (hq : At_page w qA0 n0 qc0 qA1 n1 qc1 qA2 n2 qc2 p) : Calls Tryd.prog 23 #[.agg #[.int .i64 p.h.size, sv p.h.log, .slice pA0 n0 pc0, .int .i64 p.at_, .slice pA1 n1 pc1, .slice pA2 n2 pc2], .agg #[.int .i64 p.h.size, sv p.h.log, .slice qA0 n0 qc0, .int .i64 p.at_, .slice qA1 n1 qc1, .slice qA2 n2 qc2]] w (RetB true w) := by
  have h1 := (row_new w #[.int .i64 p.h.size, sv p.h.log, .slice pA0 n0 pc0, .int .i64 p.at_, .slice pA1 n1 pc1, .slice pA2 n2 pc2] 54).alloc (.cells #[.int .i64 p.h.size, sv p.h.log, .slice qA0 n0 qc0, .int .i64 p.at_, .slice qA1 n1 qc1, .slice qA2 n2 qc2] 54)
  have h2 := row_new (w.alloc (.cells #[.int .i64 p.h.size, sv p.h.log, .slice pA0 n0 pc0, .int .i64 p.at_, .slice pA1 n1 pc1, .slice pA2 n2 pc2] 54)) #[.int .i64 p.h.size, sv p.h.log, .slice qA0 n0 qc0, .int .i64 p.at_, .slice qA1 n1 qc1, .slice qA2 n2 qc2] 54
  rw [size_alloc] at h2
  have hb := ((Below.refl w.heap.size w).alloc (Nat.le_refl _) (.cells #[.int .i64 p.h.size, sv p.h.log, .slice pA0 n0 pc0, .int .i64 p.at_, .slice pA1 n1 pc1, .slice pA2 n2 pc2] 54)).alloc (by rw [size_alloc]; omega) (.cells #[.int .i64 p.h.size, sv p.h.log, .slice qA0 n0 qc0, .int .i64 p.at_, .slice qA1 n1 qc1, .slice qA2 n2 qc2] 54)
  obtain ⟨w1, hw1⟩ : ∃ W, (w.alloc (.cells #[.int .i64 p.h.size, sv p.h.log, .slice pA0 n0 pc0, .int .i64 p.at_, .slice pA1 n1 pc1, .slice pA2 n2 pc2] 54)).alloc (.cells #[.int .i64 p.h.size, sv p.h.log, .slice qA0 n0 qc0, .int .i64 p.at_, .slice qA1 n1 qc1, .slice qA2 n2 qc2] 54) = W := ⟨_, rfl⟩
  rw [hw1] at h1 h2 hb
  have HW1 := Lib.hid hw1
  have HB0 := Lib.hid hb
  have HR0 := Lib.hid h1
  have HT0 := Lib.hid h2
  have HP := Lib.hid hp
  have HQ := Lib.hid hq
  clear hp hq h1 h2 hb hw1
  go_enter Tryd.func23, Tryd.ntmps23
  go_upto_region 1 with fail
  rw [HW1.out]
  have x0 := HR0.out.cellQ 0 _ rfl
  have y0 := HT0.out.cellQ 0 _ rfl
  have x1 := HR0.out.cellQ 1 _ rfl
  have y1 := HT0.out.cellQ 1 _ rfl
  have x2 := HR0.out.cellQ 2 _ rfl
  have y2 := HT0.out.cellQ 2 _ rfl
  have x3 := HR0.out.cellQ 3 _ rfl
  have y3 := HT0.out.cellQ 3 _ rfl
  have x4 := HR0.out.cellQ 4 _ rfl
  have y4 := HT0.out.cellQ 4 _ rfl
  have x5 := HR0.out.cellQ 5 _ rfl
  have y5 := HT0.out.cellQ 5 _ rfl
  have C := Lib.hid (same15_eq pA0 n0 pc0 qA0 qc0 p.h w1 (HP.out.keep HB0.out).qh (HQ.out.keep HB0.out).qh)
  unfold RetB at C
  go_wp2_with fail
  (with_reducible refine C.out.mono ?_)
  rintro e w10 ⟨rfl, hb9⟩
  clear C x0 y0 x1 y1 x2 y2 x3 y3 x4 y4 x5 y5
  have HB1 := Lib.hid (bt HB0.out hb9)
  have HR1 := Lib.hid (HR0.out.belowS hb9 (Nat.le_refl _))
  have HT1 := Lib.hid (HT0.out.belowS hb9 (Nat.le_refl _))
  clear hb9
  have x0 := HR1.out.cellQ 0 _ rfl
  have y0 := HT1.out.cellQ 0 _ rfl
  have x1 := HR1.out.cellQ 1 _ rfl
  have y1 := HT1.out.cellQ 1 _ rfl
  have x2 := HR1.out.cellQ 2 _ rfl
  have y2 := HT1.out.cellQ 2 _ rfl
  have x3 := HR1.out.cellQ 3 _ rfl
  have y3 := HT1.out.cellQ 3 _ rfl
  have x4 := HR1.out.cellQ 4 _ rfl
  have y4 := HT1.out.cellQ 4 _ rfl
  have x5 := HR1.out.cellQ 5 _ rfl
  have y5 := HT1.out.cellQ 5 _ rfl
  have C := Lib.hid ((show Calls Tryd.prog 67 #[.slice pA2 n2 pc2, .slice qA2 n2 qc2] w10 (RetB true w10) from by have := rsame_any pA2 n2 pc2 p.path qA2 n2 qc2 p.path w10 (HP.out.keep HB1.out).qpath (HQ.out.keep HB1.out).qpath; rw [decide_eq_true rfl] at this; exact this))
  unfold RetB at C
  have hc0 := run_str (P := Tryd.prog) (w := w10) 30 9 5 Tryd.underlying30 Tryd.underlying5 Tryd.underlying9 pA1 n1 pc1 _ p.doc (HP.out.keep HB1.out).qdoc.rd (HP.out.keep HB1.out).qdoc.len
  have hc1 := run_str (P := Tryd.prog) (w := w10) 30 9 5 Tryd.underlying30 Tryd.underlying5 Tryd.underlying9 qA1 n1 qc1 _ p.doc (HQ.out.keep HB1.out).qdoc.rd (HQ.out.keep HB1.out).qdoc.len
  go_wp2_with fail
  clear hc0 hc1
  (with_reducible refine C.out.mono ?_)
  rintro e w11 ⟨rfl, hb9⟩
  clear C x0 y0 x1 y1 x2 y2 x3 y3 x4 y4 x5 y5
  have HB2 := Lib.hid (bt HB1.out hb9)
  have HR2 := Lib.hid (HR1.out.belowS hb9 (Nat.le_refl _))
  have HT2 := Lib.hid (HT1.out.belowS hb9 (Nat.le_refl _))
  clear hb9
  have x0 := HR2.out.cellQ 0 _ rfl
  have y0 := HT2.out.cellQ 0 _ rfl
  have x1 := HR2.out.cellQ 1 _ rfl
  have y1 := HT2.out.cellQ 1 _ rfl
  have x2 := HR2.out.cellQ 2 _ rfl
  have y2 := HT2.out.cellQ 2 _ rfl
  have x3 := HR2.out.cellQ 3 _ rfl
  have y3 := HT2.out.cellQ 3 _ rfl
  have x4 := HR2.out.cellQ 4 _ rfl
  have y4 := HT2.out.cellQ 4 _ rfl
  have x5 := HR2.out.cellQ 5 _ rfl
  have y5 := HT2.out.cellQ 5 _ rfl
  go_wp2
  go_ret
  exact ⟨rfl, HB2.out⟩
set_option maxRecDepth 100000 in
set_option maxHeartbeats 16000000 in
theorem same_step (pA0 : Option Addr) (n0 pc0 : Nat) (pA1 : Option Addr) (n1 pc1 : Nat) (pA2 : Option Addr) (n2 pc2 : Nat) (qA0 : Option Addr) (qc0 : Nat) (qA1 : Option Addr) (qc1 : Nat) (qA2 : Option Addr) (qc2 : Nat) (p : Hd.Stp) (w : World) (hp : At_step w pA0 n0 pc0 pA1 n1 pc1 pA2 n2 pc2 p) (hq : At_step w qA0 n0 qc0 qA1 n1 qc1 qA2 n2 qc2 p) : Calls Tryd.prog 29 #[.agg #[.int .i64 p.old.size, sv p.old.log, .slice pA0 n0 pc0, .int .i64 p.new.size, sv p.new.log, .slice pA1 n1 pc1, .slice pA2 n2 pc2], .agg #[.int .i64 p.old.size, sv p.old.log, .slice qA0 n0 qc0, .int .i64 p.new.size, sv p.new.log, .slice qA1 n1 qc1, .slice qA2 n2 qc2]] w (RetB true w) := by
  have h1 := (row_new w #[.int .i64 p.old.size, sv p.old.log, .slice pA0 n0 pc0, .int .i64 p.new.size, sv p.new.log, .slice pA1 n1 pc1, .slice pA2 n2 pc2] 66).alloc (.cells #[.int .i64 p.old.size, sv p.old.log, .slice qA0 n0 qc0, .int .i64 p.new.size, sv p.new.log, .slice qA1 n1 qc1, .slice qA2 n2 qc2] 66)
  have h2 := row_new (w.alloc (.cells #[.int .i64 p.old.size, sv p.old.log, .slice pA0 n0 pc0, .int .i64 p.new.size, sv p.new.log, .slice pA1 n1 pc1, .slice pA2 n2 pc2] 66)) #[.int .i64 p.old.size, sv p.old.log, .slice qA0 n0 qc0, .int .i64 p.new.size, sv p.new.log, .slice qA1 n1 qc1, .slice qA2 n2 qc2] 66
  rw [size_alloc] at h2
  have hb := ((Below.refl w.heap.size w).alloc (Nat.le_refl _) (.cells #[.int .i64 p.old.size, sv p.old.log, .slice pA0 n0 pc0, .int .i64 p.new.size, sv p.new.log, .slice pA1 n1 pc1, .slice pA2 n2 pc2] 66)).alloc (by rw [size_alloc]; omega) (.cells #[.int .i64 p.old.size, sv p.old.log, .slice qA0 n0 qc0, .int .i64 p.new.size, sv p.new.log, .slice qA1 n1 qc1, .slice qA2 n2 qc2] 66)
  obtain ⟨w1, hw1⟩ : ∃ W, (w.alloc (.cells #[.int .i64 p.old.size, sv p.old.log, .slice pA0 n0 pc0, .int .i64 p.new.size, sv p.new.log, .slice pA1 n1 pc1, .slice pA2 n2 pc2] 66)).alloc (.cells #[.int .i64 p.old.size, sv p.old.log, .slice qA0 n0 qc0, .int .i64 p.new.size, sv p.new.log, .slice qA1 n1 qc1, .slice qA2 n2 qc2] 66) = W := ⟨_, rfl⟩
  rw [hw1] at h1 h2 hb
  have HW1 := Lib.hid hw1
  have HB0 := Lib.hid hb
  have HR0 := Lib.hid h1
  have HT0 := Lib.hid h2
  have HP := Lib.hid hp
  have HQ := Lib.hid hq
  clear hp hq h1 h2 hb hw1
  go_enter Tryd.func29, Tryd.ntmps29
  go_upto_region 1 with fail
  rw [HW1.out]
  have x0 := HR0.out.cellQ 0 _ rfl
  have y0 := HT0.out.cellQ 0 _ rfl
  have x1 := HR0.out.cellQ 1 _ rfl
  have y1 := HT0.out.cellQ 1 _ rfl
  have x2 := HR0.out.cellQ 2 _ rfl
  have y2 := HT0.out.cellQ 2 _ rfl
  have x3 := HR0.out.cellQ 3 _ rfl
  have y3 := HT0.out.cellQ 3 _ rfl
  have x4 := HR0.out.cellQ 4 _ rfl
  have y4 := HT0.out.cellQ 4 _ rfl
  have x5 := HR0.out.cellQ 5 _ rfl
  have y5 := HT0.out.cellQ 5 _ rfl
  have x6 := HR0.out.cellQ 6 _ rfl
  have y6 := HT0.out.cellQ 6 _ rfl
  have C := Lib.hid (same15_eq pA0 n0 pc0 qA0 qc0 p.old w1 (HP.out.keep HB0.out).qold (HQ.out.keep HB0.out).qold)
  unfold RetB at C
  go_wp2_with fail
  (with_reducible refine C.out.mono ?_)
  rintro e w10 ⟨rfl, hb9⟩
  clear C x0 y0 x1 y1 x2 y2 x3 y3 x4 y4 x5 y5 x6 y6
  have HB1 := Lib.hid (bt HB0.out hb9)
  have HR1 := Lib.hid (HR0.out.belowS hb9 (Nat.le_refl _))
  have HT1 := Lib.hid (HT0.out.belowS hb9 (Nat.le_refl _))
  clear hb9
  have x0 := HR1.out.cellQ 0 _ rfl
  have y0 := HT1.out.cellQ 0 _ rfl
  have x1 := HR1.out.cellQ 1 _ rfl
  have y1 := HT1.out.cellQ 1 _ rfl
  have x2 := HR1.out.cellQ 2 _ rfl
  have y2 := HT1.out.cellQ 2 _ rfl
  have x3 := HR1.out.cellQ 3 _ rfl
  have y3 := HT1.out.cellQ 3 _ rfl
  have x4 := HR1.out.cellQ 4 _ rfl
  have y4 := HT1.out.cellQ 4 _ rfl
  have x5 := HR1.out.cellQ 5 _ rfl
  have y5 := HT1.out.cellQ 5 _ rfl
  have x6 := HR1.out.cellQ 6 _ rfl
  have y6 := HT1.out.cellQ 6 _ rfl
  have C := Lib.hid (same15_eq pA1 n1 pc1 qA1 qc1 p.new w10 (HP.out.keep HB1.out).qnew (HQ.out.keep HB1.out).qnew)
  unfold RetB at C
  go_wp2_with fail
  (with_reducible refine C.out.mono ?_)
  rintro e w11 ⟨rfl, hb9⟩
  clear C x0 y0 x1 y1 x2 y2 x3 y3 x4 y4 x5 y5 x6 y6
  have HB2 := Lib.hid (bt HB1.out hb9)
  have HR2 := Lib.hid (HR1.out.belowS hb9 (Nat.le_refl _))
  have HT2 := Lib.hid (HT1.out.belowS hb9 (Nat.le_refl _))
  clear hb9
  have x0 := HR2.out.cellQ 0 _ rfl
  have y0 := HT2.out.cellQ 0 _ rfl
  have x1 := HR2.out.cellQ 1 _ rfl
  have y1 := HT2.out.cellQ 1 _ rfl
  have x2 := HR2.out.cellQ 2 _ rfl
  have y2 := HT2.out.cellQ 2 _ rfl
  have x3 := HR2.out.cellQ 3 _ rfl
  have y3 := HT2.out.cellQ 3 _ rfl
  have x4 := HR2.out.cellQ 4 _ rfl
  have y4 := HT2.out.cellQ 4 _ rfl
  have x5 := HR2.out.cellQ 5 _ rfl
  have y5 := HT2.out.cellQ 5 _ rfl
  have x6 := HR2.out.cellQ 6 _ rfl
  have y6 := HT2.out.cellQ 6 _ rfl
  have C := Lib.hid ((show Calls Tryd.prog 67 #[.slice pA2 n2 pc2, .slice qA2 n2 qc2] w11 (RetB true w11) from by have := rsame_any pA2 n2 pc2 p.proof qA2 n2 qc2 p.proof w11 (HP.out.keep HB2.out).qproof (HQ.out.keep HB2.out).qproof; rw [decide_eq_true rfl] at this; exact this))
  unfold RetB at C
  go_wp2_with fail
  (with_reducible refine C.out.mono ?_)
  rintro e w12 ⟨rfl, hb9⟩
  clear C x0 y0 x1 y1 x2 y2 x3 y3 x4 y4 x5 y5 x6 y6
  have HB3 := Lib.hid (bt HB2.out hb9)
  have HR3 := Lib.hid (HR2.out.belowS hb9 (Nat.le_refl _))
  have HT3 := Lib.hid (HT2.out.belowS hb9 (Nat.le_refl _))
  clear hb9
  have x0 := HR3.out.cellQ 0 _ rfl
  have y0 := HT3.out.cellQ 0 _ rfl
  have x1 := HR3.out.cellQ 1 _ rfl
  have y1 := HT3.out.cellQ 1 _ rfl
  have x2 := HR3.out.cellQ 2 _ rfl
  have y2 := HT3.out.cellQ 2 _ rfl
  have x3 := HR3.out.cellQ 3 _ rfl
  have y3 := HT3.out.cellQ 3 _ rfl
  have x4 := HR3.out.cellQ 4 _ rfl
  have y4 := HT3.out.cellQ 4 _ rfl
  have x5 := HR3.out.cellQ 5 _ rfl
  have y5 := HT3.out.cellQ 5 _ rfl
  have x6 := HR3.out.cellQ 6 _ rfl
  have y6 := HT3.out.cellQ 6 _ rfl
  go_wp2
  go_ret
  exact ⟨rfl, HB3.out⟩
end Go.Proofs.YtfgpaepdlmnhaaaDoor

namespace Go.Proofs.YtfgpaepdlmnhaaaDoor
set_option maxRecDepth 100000
set_option linter.unusedVariables false
open Go.RowKit
set_option maxRecDepth 100000 in
set_option maxHeartbeats 8000000 in
theorem wr_ans0 (log : List UInt8) (hlog : log.length ≤ 1000) (w : World) : Calls Tryd.prog 10 #[.agg #[.int .i64 0, sv log, .slice none 0 0, .slice none 0 0]] w (WrPost (Hd.wEnd (Hd.wHead ⟨[1], false⟩ ⟨0, log, []⟩)) w) := by
  obtain ⟨s1, hs1⟩ : ∃ r, Hd.wHead ⟨[1], false⟩ ⟨0, log, []⟩ = r := ⟨_, rfl⟩
  obtain ⟨rr, hrr⟩ : ∃ r, Hd.wEnd s1 = r := ⟨_, rfl⟩
  rw [hs1, hrr]
  obtain ⟨w1, hw1⟩ : ∃ W, (((w.alloc (.cells #[.int .i64 0, sv log, .slice none 0 0, .slice none 0 0] 27)).alloc (.cells #[.int .u8 1] 5)).alloc (.cells #[.slice (some ⟨w.heap.size + 1, 0, none⟩) 1 1, .bool false] 98)) = W := ⟨_, rfl⟩
  have HW1 := Lib.hid hw1
  have HC0 := Lib.hid (SwC.start w #[.int .i64 0, sv log, .slice none 0 0, .slice none 0 0] 27 1 hw1)
  have HS1 := Lib.hid hs1
  have HRR := Lib.hid hrr
  clear hw1 hs1 hrr
  go_enter Tryd.func10, Tryd.ntmps10
  go_upto_region 2 with fail
  rw [HW1.out]
  clear HW1
  have x0 := HC0.out.row.cellQ 0 _ rfl
  have x1 := HC0.out.row.cellQ 1 _ rfl
  have x2 := HC0.out.row.cellQ 2 _ rfl
  have C := Lib.hid (WW.head (hh := ⟨0, log, []⟩) HC0.out.ww (by simp only [List.length_singleton]; omega) (fun W hW => Sq.nil W) (by simp) hlog HS1.out)
  unfold WWPost at C
  go_wp2_with fail
  (with_reducible refine C.out.mono ?_)
  rintro e w2 ⟨⟨v0, rfl⟩, hw, hb, hk⟩
  have HC1 := Lib.hid (HC0.out.turn (by decide) hw hb hk)
  clear hw hb hk C HC0 x0 x1 x2
  have x2 := HC1.out.row.cellQ 2 _ rfl
  have x3 := HC1.out.row.cellQ 3 _ rfl
  go_wp2
  go_loopw [25] (fun vi wr => vi = .int .i64 0 ∧ wr = w2) (fun vi _ => 0)
  case atStart => exact ⟨rfl, rfl⟩
  case round =>
    obtain ⟨rfl, rfl⟩ := hrel
    go_wp2_with fail
    (with_reducible refine (HC1.out.fin HRR.out).mono ?_)
    rintro e wf ⟨rfl, hpost, A9, n9, c9, x9, rfl⟩
    have HPP := Lib.hid hpost
    clear hpost
    go_wp2
    go_ret2
    exact HPP.out
set_option maxRecDepth 100000 in
set_option maxHeartbeats 16000000 in
theorem rd_ans0 (A : Option Addr) (n c : Nat) (l : List UInt8) (w : World) (h : Bs w A n c l) (hn : l.length ≤ 1000000000) {s1 : Hd.RS} {v1 : Hd.H} (hbx : begX l 1 = 0) (hs1 : Hd.stHead l ⟨1, 0⟩ = (s1, v1)) (hsg : v1.segs = []) (hdx : Hd.doneX l s1 = 0) : Calls Tryd.prog 14 #[.slice A n c] w (fun e w' => (∃ A' c', e = .returned (.tuple #[.agg #[.int .i64 v1.size, sv v1.log, .slice A' 0 c', .slice none 0 0], .int .i64 0])) ∧ Below w.heap.size w w') := by
  have hb0 := (Below.refl w.heap.size w).alloc (Nat.le_refl _) (.cells #[.int .i64 0, .string { data := #[] }, .slice none 0 0, .slice none 0 0] 27)
  have hr0 := row_new w #[.int .i64 0, .string { data := #[] }, .slice none 0 0, .slice none 0 0] 27
  obtain ⟨w1, hw1⟩ : ∃ W, w.alloc (.cells #[.int .i64 0, .string { data := #[] }, .slice none 0 0, .slice none 0 0] 27) = W := ⟨_, rfl⟩
  have HW1 := Lib.hid hw1
  rw [hw1] at hb0 hr0
  have HB0 := Lib.hid hb0
  have HR0 := Lib.hid hr0
  have hlt0 := hr0.lt
  have CB := begin_any A n c l 1 w1 (h.keep hb0)
  have CB := Lib.hid (show Calls Tryd.prog 52 #[.slice A n c, .int .u8 1] w1 (BegPost l 1 w1) from CB)
  unfold BegPost at CB
  rw [hbx] at CB
  have HS1 := Lib.hid hs1
  have HDX := Lib.hid hdx
  have HSG := Lib.hid hsg
  clear h hbx hdx hw1 hb0 hr0 hs1 hsg
  go_enter Tryd.func14, Tryd.ntmps14
  go_upto_region 1 with fail
  rw [HW1.out]
  go_wp2_with fail
  (with_reducible refine CB.out.mono ?_)
  rintro e w2 ⟨hb2, he2⟩
  rw [if_pos trivial] at he2
  obtain ⟨g, rfl, hr2⟩ := he2
  have HB2 := Lib.hid hb2
  have HR2 := Lib.hid hr2
  clear hb2 hr2 CB
  have C := Lib.hid (HR2.out.head hn HS1.out)
  unfold RRPostV at C
  go_wp2_with fail
  (with_reducible refine C.out.mono ?_)
  rintro e w3 ⟨_, rfl, ⟨A0, n0, c0, rfl, hq⟩, hr, hb, hk⟩
  have hn0 : n0 = 0 := by rw [← hq.len, HSG.out]; rfl
  subst hn0
  have HR3 := Lib.hid hr
  have HB3 := Lib.hid (bt HB0.out (HB2.out.trans hb))
  have HRW3 := Lib.hid ((HR0.out.belowS HB2.out (Nat.le_refl _)).keepTy (by decide) hk)
  clear hr hb hk hq C HB2 HR2
  unfold hdv
  go_upto_region 5 with fail
  have hb4 := (Below.refl w3.heap.size w3).alloc (Nat.le_refl _) (.cells #[.int .i64 v1.size, sv v1.log, .slice A0 0 c0, .slice none 0 0] 27)
  have hr4 := row_new w3 #[.int .i64 v1.size, sv v1.log, .slice A0 0 c0, .slice none 0 0] 27
  obtain ⟨w4, hw4⟩ : ∃ W, w3.alloc (.cells #[.int .i64 v1.size, sv v1.log, .slice A0 0 c0, .slice none 0 0] 27) = W := ⟨_, rfl⟩
  rw [hw4] at hb4 hr4 ⊢
  have HRD := Lib.hid (HR3.out.keep hb4)
  have HB4 := Lib.hid (bt HB3.out hb4)
  have HRR := Lib.hid (HRW3.out.belowS hb4 (Nat.le_refl _))
  have HRP := Lib.hid hr4
  have hne : w.heap.size ≠ w3.heap.size := by have := HRW3.out.lt; omega
  clear hw4 hb4 hr4 HR3 HB3 HRW3
  have x2 := HRP.out.cellQ 2 _ rfl
  go_wp2
  go_loopw [25] (fun vi wr => vi = .int .i64 0 ∧ wr = w4) (fun vi _ => 0)
  case atStart => exact ⟨rfl, rfl⟩
  case round =>
    obtain ⟨rfl, rfl⟩ := hrel
    clear x2
    obtain ⟨Ag, cg, rg, CD⟩ := HRD.out.done HDX.out
    have CD := Lib.hid CD
    have x0 := rg.cellQ 0 _ rfl
    have x1 := rg.cellQ 1 _ rfl
    have x2 := rg.cellQ 2 _ rfl
    clear rg
    go_wp2_with fail
    (with_reducible refine (CD.out _).mono ?_)
    rintro e w30 ⟨rfl, hb30⟩
    have HF := Lib.hid (And.intro (HRR.out.belowS hb30 (Nat.le_refl _)) (And.intro (HRP.out.belowS hb30 (Nat.le_refl _)) (bt HB4.out hb30)))
    clear hb30 x0 x1 x2 CD HRR HRP HB4
    have z0 := HF.out.1.cellQ 0 _ rfl
    have z1 := HF.out.1.cellQ 1 _ rfl
    have z2 := HF.out.1.cellQ 2 _ rfl
    have z3 := HF.out.1.cellQ 3 _ rfl
    have u0 := HF.out.1.frozen 0
    have u1 := HF.out.1.frozen 1
    have u2 := HF.out.1.frozen 2
    have u3 := HF.out.1.frozen 3
    have q0 := HF.out.2.1.cellQ 0 _ rfl
    have q1 := HF.out.2.1.cellQ 1 _ rfl
    have q2 := HF.out.2.1.cellQ 2 _ rfl
    have q3 := HF.out.2.1.cellQ 3 _ rfl
    go_wp2
    generalize hwf : World.setCell (World.setCell (World.setCell (World.setCell w30 _ _) _ _) _ _) _ _ = wf
    have hsf : setFrom w.heap.size w30 0 [.int .i64 v1.size, sv v1.log, .slice A0 0 c0, .slice none 0 0] = wf := by rw [← hwf]; rfl
    have hrow := HF.out.1.all [.int .i64 v1.size, sv v1.log, .slice A0 0 c0, .slice none 0 0] rfl
    rw [hsf] at hrow
    have r0 := hrow.cellQ 0 _ rfl
    have r1 := hrow.cellQ 1 _ rfl
    have r2 := hrow.cellQ 2 _ rfl
    have r3 := hrow.cellQ 3 _ rfl
    refine bodyPost_ret (v := .tuple #[.agg #[.int .i64 v1.size, sv v1.log, .slice A0 0 c0, .slice none 0 0], .int .i64 0]) (by simp [results, Tryd.results14, go_sem, r0, r1, r2, r3]) rfl ?_
    exact ⟨⟨A0, c0, rfl⟩, by rw [← hsf]; exact below_setFrom (Nat.le_refl _) _ 0 HF.out.2.2⟩
set_option maxRecDepth 100000 in
set_option maxHeartbeats 16000000 in
theorem knows18_any (w : World) (ht : Tabs w) : Calls Tryd.prog 9 #[] w (Yes w) := by
  obtain ⟨log, hlog⟩ : ∃ l, Sha.sum [] = l := ⟨_, rfl⟩
  have hl32 : log.length = 32 := by rw [← hlog]; exact Sha.sum_length _
  have CS := sum_any none 0 0 [] w Rd.nil rfl (Nat.le_refl _) (Nat.zero_le _) (by omega) ht.r ht.b
  unfold SumPost at CS
  rw [hlog] at CS
  have CS := Lib.hid CS
  have hok : Hd.H.ok ⟨0, log, []⟩ = true := by unfold Hd.H.ok Hd.row; simp [hl32, Hd.rowFrom]
  have hnum0 : Code.num 0 = [0] := Code.num_lt (by omega)
  have hbytes : Hd.H.bytes ⟨0, log, []⟩ = 0 :: (log ++ [0]) := by unfold Hd.H.bytes; simp [hnum0]
  have htext : Code.text (Hd.H.bytes ⟨0, log, []⟩) = 34 :: 0 :: (log ++ [0]) := by
    unfold Code.text
    rw [hbytes]
    simp only [List.length_cons, List.length_append, hl32, List.length_nil]
    rw [Code.num_lt (by omega)]
    rfl
  obtain ⟨l, hl⟩ : ∃ l : List UInt8, 1 :: 34 :: 0 :: (log ++ [0]) = l := ⟨_, rfl⟩
  have hll : l.length = 36 := by rw [← hl]; simp [hl32]
  have hwr : Hd.wEnd (Hd.wHead ⟨[1], false⟩ ⟨0, log, []⟩) = .ok l := by
    rw [Hd.wHead_ok _ hok, htext]
    show Hd.wEnd ⟨1 :: 34 :: 0 :: (log ++ [0]), false⟩ = _
    rw [hl]
    unfold Hd.wEnd
    simp only [Bool.false_eq_true, if_false]
    rw [if_neg (by omega)]
  have hb1 : begX l 1 = 0 := by unfold begX; rw [if_neg (by omega), ← hl]; rfl
  have hb2 : begX l 2 = 2 := by unfold begX; rw [if_neg (by omega), ← hl]; rfl
  have hsth : Hd.stHead l ⟨1, 0⟩ = (⟨36, 0⟩, ⟨0, log, []⟩) := by
    have := Hd.stHead_of (l := l) (a := 1) (r := []) hok (by rw [htext, ← hl]; simp)
    rw [this, htext]
    simp [hl32]
  have hdn : Hd.doneX l ⟨36, 0⟩ = 0 := by
    unfold Hd.doneX
    simp only [ne_eq, not_true, if_false]
    rw [if_neg (by omega)]
  have hrp : Hd.rdPage l = .error 2 := by unfold Hd.rdPage; rw [hb2]; rfl
  have CW := Lib.hid (fun W => wr_ans0 log (by omega) W)
  unfold WrPost at CW
  rw [hwr] at CW
  have CR := Lib.hid (fun A n c W (hB : Bs W A n c l) => rd_ans0 A n c l W hB (by omega) hb1 hsth rfl hdn)
  have CP := fun A n c W (hB : Bs W A n c l) => rd_page A n c l W hB (by omega)
  rw [hrp] at CP
  have CP := Lib.hid CP
  unfold RdPost_page at CP
  have HG0 := Lib.hid (show ∀ W A n c, Bs W A n c l → ∃ b off, A = some ⟨b, off, none⟩ ∧ n = 36 ∧ W.cell? ⟨b, off, none⟩ = some (.int .u8 1) ∧ W.cell? ⟨b, off + 1, none⟩ = some (.int .u8 34) from fun W A n c hB => by
    obtain ⟨b, off, e, _, hc⟩ := hB.rd (by rw [← hl]; simp)
    refine ⟨b, off, e, by rw [← hB.len, hll], ?_, ?_⟩
    · have := hc 0 (bv 1) (by rw [← hl]; rfl)
      rw [Nat.add_zero] at this
      exact this
    · exact hc 1 (bv 34) (by rw [← hl]; rfl))
  clear hlog hok hnum0 hbytes htext hl hwr hb1 hb2 hsth hdn hrp hll ht
  go_enter Tryd.func9, Tryd.ntmps9
  go_wp2_with fail
  (with_reducible refine CS.out.mono ?_)
  rintro e w1 ⟨rfl, hb1⟩
  have HB1 := Lib.hid hb1
  clear hb1 CS
  go_upto_region 2 with fail
  have hb2 := (Below.refl w1.heap.size w1).alloc (Nat.le_refl _) (.cells #[.int .i64 0, sv log, .slice none 0 0, .slice none 0 0] 27)
  have hr2 := row_new w1 #[.int .i64 0, sv log, .slice none 0 0, .slice none 0 0] 27
  obtain ⟨w2, hw2⟩ : ∃ W, w1.alloc (.cells #[.int .i64 0, sv log, .slice none 0 0, .slice none 0 0] 27) = W := ⟨_, rfl⟩
  rw [hw2] at hb2 hr2 ⊢
  have HB2 := Lib.hid (bt HB1.out hb2)
  have HR2 := Lib.hid hr2
  clear hw2 hb2 hr2 HB1
  have x0 := HR2.out.cellQ 0 _ rfl
  have x1 := HR2.out.cellQ 1 _ rfl
  have x2 := HR2.out.cellQ 2 _ rfl
  have x3 := HR2.out.cellQ 3 _ rfl
  go_wp2_with fail
  (with_reducible refine (CW.out _).mono ?_)
  rintro e w3 ⟨hb3, A3, n3, c3, rfl, ho3⟩
  have HB3 := Lib.hid (bt HB2.out hb3)
  have HR3 := Lib.hid (HR2.out.belowS hb3 (Nat.le_refl _))
  have HO3 := Lib.hid ho3
  clear hb3 ho3 x0 x1 x2 x3 HB2 HR2 CW
  go_wp2_with fail
  (with_reducible refine (CR.out _ _ _ _ HO3.out.bs).mono ?_)
  rintro e w4 ⟨⟨A4, c4, rfl⟩, hb4⟩
  have HB4 := Lib.hid (bt HB3.out hb4)
  have HR4 := Lib.hid (HR3.out.belowS hb4 (Nat.le_refl _))
  have HO4 := Lib.hid (HO3.out.keep hb4)
  clear hb4 HB3 HR3 HO3 CR
  go_upto_region 4 with fail
  have hb5 := (Below.refl w4.heap.size w4).alloc (Nat.le_refl _) (.cells #[.int .i64 0, sv log, .slice A4 0 c4, .slice none 0 0] 27)
  have hr5 := row_new w4 #[.int .i64 0, sv log, .slice A4 0 c4, .slice none 0 0] 27
  obtain ⟨w5, hw5⟩ : ∃ W, w4.alloc (.cells #[.int .i64 0, sv log, .slice A4 0 c4, .slice none 0 0] 27) = W := ⟨_, rfl⟩
  rw [hw5] at hb5 hr5 ⊢
  have HB5 := Lib.hid (bt HB4.out hb5)
  have HR5 := Lib.hid (HR4.out.belowS hb5 (Nat.le_refl _))
  have HX5 := Lib.hid hr5
  have HO5 := Lib.hid (HO4.out.keep hb5)
  clear hw5 hb5 hr5 HB4 HR4 HO4
  go_wp2_with fail
  (with_reducible refine (CP.out _ _ _ _ HO5.out.bs).mono ?_)
  rintro e w6 ⟨hb6, rfl, _⟩
  have HB6 := Lib.hid (bt HB5.out hb6)
  have HR6 := Lib.hid (HR5.out.belowS hb6 (Nat.le_refl _))
  have HX6 := Lib.hid (HX5.out.belowS hb6 (Nat.le_refl _))
  have HO6 := Lib.hid (HO5.out.keep hb6)
  clear hb6 HB5 HR5 HX5 HO5 CP
  go_upto_region 5 with fail
  have hb7 := (Below.refl w6.heap.size w6).alloc (Nat.le_refl _) (.cells #[.int .i64 0, .string { data := #[] }, .slice none 0 0, .int .i64 0, .slice none 0 0, .slice none 0 0] 48)
  obtain ⟨w7, hw7⟩ : ∃ W, w6.alloc (.cells #[.int .i64 0, .string { data := #[] }, .slice none 0 0, .int .i64 0, .slice none 0 0, .slice none 0 0] 48) = W := ⟨_, rfl⟩
  rw [hw7] at hb7 ⊢
  have HB7 := Lib.hid (bt HB6.out hb7)
  have HR7 := Lib.hid (HR6.out.belowS hb7 (Nat.le_refl _))
  have HX7 := Lib.hid (HX6.out.belowS hb7 (Nat.le_refl _))
  obtain ⟨b, off, rfl, rfl, g0, g1⟩ := HG0.out _ _ _ _ (HO6.out.keep hb7).bs
  clear hw7 hb7 HB6 HR6 HX6
  have x1 := HR7.out.cellQ 1 _ rfl
  have y1 := HX7.out.cellQ 1 _ rfl
  go_wp2
  go_ret
  exact ⟨rfl, HB7.out⟩
end Go.Proofs.YtfgpaepdlmnhaaaDoor

namespace Go.Proofs.YtfgpaepdlmnhaaaDoor
set_option maxRecDepth 100000
set_option linter.unusedVariables false
open Go.ChangeShapes Go.WideShapes Go.ChangeAt Go.RowKit
theorem list2 {α : Type} {l : List α} (h : l.length = 2) : ∃ c0 c1, l = [c0, c1] := by
  match l, h with
  | [c0, c1], _ => exact ⟨c0, c1, rfl⟩
theorem list3 {α : Type} {l : List α} (h : l.length = 3) : ∃ c0 c1 c2, l = [c0, c1, c2] := by
  match l, h with
  | [c0, c1, c2], _ => exact ⟨c0, c1, c2, rfl⟩
theorem list4 {α : Type} {l : List α} (h : l.length = 4) : ∃ c0 c1 c2 c3, l = [c0, c1, c2, c3] := by
  match l, h with
  | [c0, c1, c2, c3], _ => exact ⟨c0, c1, c2, c3, rfl⟩
theorem list6 {α : Type} {l : List α} (h : l.length = 6) : ∃ c0 c1 c2 c3 c4 c5, l = [c0, c1, c2, c3, c4, c5] := by
  match l, h with
  | [c0, c1, c2, c3, c4, c5], _ => exact ⟨c0, c1, c2, c3, c4, c5, rfl⟩
theorem list7 {α : Type} {l : List α} (h : l.length = 7) : ∃ c0 c1 c2 c3 c4 c5 c6, l = [c0, c1, c2, c3, c4, c5, c6] := by
  match l, h with
  | [c0, c1, c2, c3, c4, c5, c6], _ => exact ⟨c0, c1, c2, c3, c4, c5, c6, rfl⟩
theorem cells_at {w : World} {base : Nat} {a : Addr} {n : Nat} {cs : List Value} (h : w.cells? base a n = some cs) : cs.length = n ∧ ∀ (j : Nat) (v : Value), cs[j]? = some v → w.cell? (a.add j) = some v := by
  unfold World.cells? at h
  split at h
  · have h2 : ∀ (l : List Nat) (r : List Value), l.mapM (fun i => w.cell? (a.add i)) = some r → r.length = l.length ∧ ∀ (j : Nat) (v : Value), r[j]? = some v → ∃ i, l[j]? = some i ∧ w.cell? (a.add i) = some v := by
      intro l
      induction l with
      | nil => intro r hr; simp at hr; subst hr; exact ⟨rfl, fun j v hv => by simp at hv⟩
      | cons i l ih =>
        intro r hr
        rw [List.mapM_cons] at hr
        cases hc : w.cell? (a.add i) with
        | none => rw [hc] at hr; simp at hr
        | some v0 =>
          rw [hc] at hr
          cases hm : l.mapM (fun i => w.cell? (a.add i)) with
          | none => rw [hm] at hr; simp at hr
          | some r0 =>
            rw [hm] at hr
            simp at hr
            subst hr
            obtain ⟨e1, e2⟩ := ih r0 hm
            refine ⟨by simp [e1], fun j v hv => ?_⟩
            cases j with
            | zero => simp at hv; subst hv; exact ⟨i, rfl, hc⟩
            | succ j => rw [List.getElem?_cons_succ] at hv ⊢; exact e2 j v hv
    obtain ⟨e1, e2⟩ := h2 _ _ h
    refine ⟨by rw [e1, List.length_range], fun j v hv => ?_⟩
    obtain ⟨i, hi, hc⟩ := e2 j v hv
    have hj : j < (List.range n).length := (List.getElem?_eq_some_iff.1 hi).1
    rw [List.getElem?_range (by simpa using hj)] at hi
    injection hi with hi
    subst hi
    exact hc
  · cases h
theorem add_add (x : Addr) (a b : Nat) : (x.add a).add b = x.add (a + b) := by
  obtain ⟨k, off, spot⟩ := x
  by_cases ha : a = 0 <;> by_cases hb : b = 0 <;> simp [Addr.add, ha, hb, Nat.add_assoc]
/-- Rows of structs that were laid. -/
theorem sq_of {α : Type} {cs : α → List Value} {k : Nat} (hk : ∀ a, (cs a).length = k) (k0 : 0 < k) {W : World} {x : Addr} {n c : Nat} (f : Nat → α) (hcap : n ≤ c) (hm : c ≤ maxLen)
    (h : ∀ i, i < n → W.cells? 0 (x.add (i * k)) k = some (cs (f i))) : Sq cs k W (some x) n c ((List.range n).map f) := by
  refine ⟨?_, by simp, hcap, hm⟩
  have hc : ∀ i v, (((List.range n).map f).flatMap cs)[i]? = some v → W.cell? (x.add i) = some v := fun i v hv => by
    have hl := flat_len hk ((List.range n).map f)
    have hi : i < n * k := by
      have := (List.getElem?_eq_some_iff.1 hv).1
      rw [hl] at this
      simpa using this
    have ht : i / k < n := Nat.div_lt_of_lt_mul (by rw [Nat.mul_comm]; exact hi)
    have hj : i % k < k := Nat.mod_lt _ k0
    have he : i = i / k * k + i % k := by rw [Nat.mul_comm]; exact (Nat.div_add_mod i k).symm
    have hr : ((List.range n).map f)[i / k]? = some (f (i / k)) := by rw [List.getElem?_map, List.getElem?_range ht]; rfl
    have hv2 : (cs (f (i / k)))[i % k]? = some v := by
      rw [he, flat_at hk _ _ _ _ hr hj] at hv
      exact hv
    have := (cells_at (h _ ht)).2 _ _ hv2
    have e2 : (x.add (i / k * k)).add (i % k) = x.add i := by rw [add_add, ← he]
    rw [e2] at this
    exact this
  by_cases hn : n = 0
  · subst hn; exact Rd.nil
  · refine rd_of_addr ?_ hc
    have h0 := cells_at (h 0 (by omega))
    have hlt : 0 < (cs (f 0)).length := by rw [hk]; exact k0
    have := h0.2 0 _ (List.getElem?_eq_getElem hlt)
    have hb := World.block_lt_of_cell? W _ this
    obtain ⟨b, off, spot⟩ := x
    simpa [Addr.add] using hb
section
variable {H : Type} {enc : TypeId × Value → H} {W : World} {base : Nat} {v : Value} {d : DataW H} {p : List MemPlace} {r : Reach}
set_option maxRecDepth 100000 in
theorem open_strsT {a0 : Option Addr} {len0 cap0 : Nat} (h : DataW.Trod enc Tryd.prog W 0 (fun _ => true) true 46 (.slice a0 len0 cap0) d p) :
    ∃ (A : Option Addr) (n c : Nat) (l : List (List UInt8)), (Value.slice a0 len0 cap0 : Value) = .slice A n c ∧ Rd W W.heap.size A (l.map sv) ∧ l.length = n ∧ n ≤ c ∧ c ≤ maxLen ∧ ∀ s ∈ l, s.length ≤ maxLen := by
  obtain ⟨fuel, hf⟩ := h
  rcases open_strings Tryd.underlying46 Tryd.underlying9 (by kernel_rfl) hf with ⟨hcs, _⟩ | ⟨x, l, c, ss, hcs, _, hl, hm, hz, hx, hcell, hwz⟩
  · simp [Value.cells] at hcs
    obtain ⟨rfl, rfl, rfl⟩ := hcs
    exact ⟨none, 0, 0, [], rfl, Rd.nil, rfl, Nat.le_refl _, Nat.zero_le _, by simp⟩
  · simp [Value.cells] at hcs
    obtain ⟨rfl, rfl, rfl⟩ := hcs
    have hz' : ss.length = cap0 := by simpa using hz
    refine ⟨some x, len0, cap0, (ss.take len0).map fun s => s.data.toList, rfl, ?_, by rw [List.length_map, List.length_take]; omega, hl, hm, fun s hs => ?_⟩
    · by_cases hn : ss.take len0 = []
      · rw [hn]; exact Rd.nil
      · have hlen : 0 < (ss.take len0).length := List.length_pos_iff.2 hn
        rw [List.length_take] at hlen
        have hc0 := hcell 0 (by omega)
        have hb : x.block < W.heap.size := by
          have := World.block_lt_of_cell? W _ hc0
          obtain ⟨b, off, spot⟩ := x
          simpa [Addr.add] using this
        refine rd_of_addr hb fun i v hv => ?_
        rw [List.getElem?_map, List.getElem?_map, List.getElem?_take] at hv
        split at hv
        · rename_i hi
          have := hcell i (by omega)
          rw [this]
          have hz2 : ss[i]? = some (ss[i]'(by omega)) := List.getElem?_eq_getElem (by omega)
          rw [hz2] at hv
          simp only [Option.map_some, Option.some.injEq] at hv
          rw [← hv, List.getD, hz2]
          simp [str]
        · simp at hv
    · obtain ⟨t, ht, rfl⟩ := List.mem_map.1 hs
      have := hwz t (List.mem_of_mem_take ht)
      rw [Array.length_toList]; exact this
set_option maxRecDepth 100000 in
theorem open_span {fuel : Nat} {cs : List Value} {x : DataW H × List MemPlace} (h : DataW.trod enc Tryd.prog W 0 (fun _ => true) true fuel 128 cs = some x) : ∃ a b : Int, cs = [.int .i64 a, .int .i64 b] := by
  obtain ⟨y0, y1, m, _, hl, f0, f1⟩ := Go.ChangeShapes.trod_struct2 Tryd.underlying128 h
  have hl2 : cs.length = 2 := hl.trans (by kernel_rfl)
  obtain ⟨c0, c1, rfl⟩ := list2 hl2
  try dsimp only at f0
  rw [show Tryd.prog.cellsOf 3 = 1 by kernel_rfl] at f0
  have f0 : DataW.trod enc Tryd.prog W 0 (fun _ => true) true m 3 [c0] = some y0 := by simpa using f0
  try dsimp only at f1
  rw [show Tryd.prog.cellsOf 3 = 1 by kernel_rfl] at f1
  have f1 : DataW.trod enc Tryd.prog W 0 (fun _ => true) true m 3 [c1] = some y1 := by simpa using f1
  clear h hl hl2
  obtain ⟨a, e0, _, _⟩ := DataW.trod_int Tryd.underlying3 f0
  obtain ⟨b, e1, _, _⟩ := DataW.trod_int Tryd.underlying3 f1
  simp only [List.cons.injEq, and_true] at e0 e1
  exact ⟨a, b, by rw [e0, e1]⟩
set_option maxRecDepth 100000 in
theorem open_sign {fuel : Nat} {cs : List Value} {x : DataW H × List MemPlace} (h : DataW.trod enc Tryd.prog W 0 (fun _ => true) true fuel 130 cs = some x) : ∃ s : Hd.Sg, cs = sgc s ∧ s.rt.length ≤ maxLen := by
  obtain ⟨y0, y1, y2, m, _, hl, f0, f1, f2⟩ := Go.Deep.trod_struct3 Tryd.underlying130 h
  have hl2 : cs.length = 4 := hl.trans (by kernel_rfl)
  obtain ⟨c0, c1, c2, c3, rfl⟩ := list4 hl2
  try dsimp only at f0
  rw [show Tryd.prog.cellsOf 128 = 2 by kernel_rfl] at f0
  have f0 : DataW.trod enc Tryd.prog W 0 (fun _ => true) true m 128 [c0, c1] = some y0 := by simpa using f0
  try dsimp only at f1
  rw [show Tryd.prog.cellsOf 3 = 1 by kernel_rfl] at f1
  have f1 : DataW.trod enc Tryd.prog W 0 (fun _ => true) true m 3 [c2] = some y1 := by simpa using f1
  try dsimp only at f2
  rw [show Tryd.prog.cellsOf 9 = 1 by kernel_rfl] at f2
  have f2 : DataW.trod enc Tryd.prog W 0 (fun _ => true) true m 9 [c3] = some y2 := by simpa using f2
  clear h hl hl2
  obtain ⟨a, b, e0⟩ := open_span f0
  obtain ⟨k, e1, _, _⟩ := DataW.trod_int Tryd.underlying3 f1
  obtain ⟨t, e2, _, wt⟩ := DataW.trod_string Tryd.underlying9 f2
  obtain ⟨l, rfl, hl⟩ := str_of t wt
  simp only [List.cons.injEq, and_true] at e0 e1 e2
  exact ⟨⟨a, b, k, l⟩, by rw [e0.1, e0.2, e1, e2]; rfl, hl⟩
set_option maxRecDepth 100000 in
theorem open_signs {fuel : Nat} {cs : List Value} {x : DataW H × List MemPlace} (h : DataW.trod enc Tryd.prog W 0 (fun _ => true) true fuel 22 cs = some x) : ∃ (A : Option Addr) (n c : Nat) (L : List Hd.Sg), cs = [.slice A n c] ∧ Sq sgc 4 W A n c L ∧ ∀ s ∈ L, s.rt.length ≤ maxLen := by
  rcases Go.Deep.open_slice Tryd.underlying22 h with ⟨hcs, _⟩ | ⟨a, len, cap, m, n, D, Pl, hcs, _, hl, hm, hmm, _, hel⟩
  · exact ⟨none, 0, 0, [], hcs, Sq.nil W, by simp⟩
  · have hE : Tryd.prog.cellsOf 130 = 4 := by kernel_rfl
    have key : ∀ i, ∃ s : Hd.Sg, i < len → W.cells? 0 (a.add (i * 4)) 4 = some (sgc s) ∧ s.rt.length ≤ maxLen := fun i => by
      by_cases hi : i < len
      · obtain ⟨cs', h1, h2⟩ := hel i (by rw [hmm]; simp; omega)
        rw [hE] at h1
        obtain ⟨s, rfl, hs⟩ := open_sign h2
        exact ⟨s, fun _ => ⟨h1, hs⟩⟩
      · exact ⟨⟨0, 0, 0, []⟩, fun h => absurd h hi⟩
    obtain ⟨f, hf⟩ := Classical.axiomOfChoice key
    refine ⟨some a, len, cap, (List.range len).map f, hcs, sq_of sgc_len (by omega) f hl hm (fun i hi => (hf i hi).1), fun s hs => ?_⟩
    obtain ⟨i, hi, rfl⟩ := List.mem_map.1 hs
    exact (hf i (List.mem_range.1 hi)).2
set_option maxRecDepth 100000 in
theorem open_bytesC {fuel : Nat} {cs : List Value} {x : DataW H × List MemPlace} (h : DataW.trod enc Tryd.prog W 0 (fun _ => true) true fuel 30 cs = some x) : ∃ (A : Option Addr) (n c : Nat) (l : List UInt8), cs = [.slice A n c] ∧ Bs W A n c l := by
  obtain ⟨q, e, h1⟩ := open_piece h
  exact ⟨q.a, q.n, q.c, q.l, e, h1.rd, h1.len, h1.cap, h1.max⟩
set_option maxRecDepth 100000 in
theorem open_strsC {fuel : Nat} {cs : List Value} {x : DataW H × List MemPlace} (h : DataW.trod enc Tryd.prog W 0 (fun _ => true) true fuel 46 cs = some x) : ∃ (A : Option Addr) (n c : Nat) (l : List (List UInt8)), cs = [.slice A n c] ∧ Ss W A n c l ∧ ∀ s ∈ l, s.length ≤ maxLen := by
  obtain ⟨A, n, c, e⟩ : ∃ A n c, cs = [.slice A n c] := by
    rcases Go.Deep.open_slice Tryd.underlying46 h with ⟨hcs, _⟩ | ⟨a, len, cap, m, n, D, Pl, hcs, _⟩
    · exact ⟨none, 0, 0, hcs⟩
    · exact ⟨some a, len, cap, hcs⟩
  subst e
  have hk : DataW.Trod enc Tryd.prog W 0 (fun _ => true) true 46 (.slice A n c) x.1 x.2 := ⟨fuel, by simpa [Value.cells] using h⟩
  obtain ⟨A2, n2, c2, l, e, h1, h2, h3, h4, h5⟩ := open_strsT hk
  exact ⟨A2, n2, c2, l, by rw [e], ⟨h1, h2, h3, h4⟩, h5⟩
/-- A head that came in. -/
structure InH (W : World) (A : Option Addr) (n c : Nat) (h : Hd.H) : Prop where
  q : Sq sgc 4 W A n c h.segs
  r : ∀ s ∈ h.segs, s.rt.length ≤ maxLen
  l : h.log.length ≤ maxLen
set_option maxRecDepth 100000 in
theorem open_headC {fuel : Nat} {cs : List Value} {x : DataW H × List MemPlace} (h : DataW.trod enc Tryd.prog W 0 (fun _ => true) true fuel 24 cs = some x) : ∃ (A : Option Addr) (n c : Nat) (hh : Hd.H), cs = [.int .i64 hh.size, sv hh.log, .slice A n c] ∧ InH W A n c hh := by
  obtain ⟨y0, y1, y2, m, _, hl, f0, f1, f2⟩ := Go.Deep.trod_struct3 Tryd.underlying24 h
  have hl2 : cs.length = 3 := hl.trans (by kernel_rfl)
  obtain ⟨c0, c1, c2, rfl⟩ := list3 hl2
  try dsimp only at f0
  rw [show Tryd.prog.cellsOf 3 = 1 by kernel_rfl] at f0
  have f0 : DataW.trod enc Tryd.prog W 0 (fun _ => true) true m 3 [c0] = some y0 := by simpa using f0
  try dsimp only at f1
  rw [show Tryd.prog.cellsOf 9 = 1 by kernel_rfl] at f1
  have f1 : DataW.trod enc Tryd.prog W 0 (fun _ => true) true m 9 [c1] = some y1 := by simpa using f1
  try dsimp only at f2
  rw [show Tryd.prog.cellsOf 22 = 1 by kernel_rfl] at f2
  have f2 : DataW.trod enc Tryd.prog W 0 (fun _ => true) true m 22 [c2] = some y2 := by simpa using f2
  clear h hl hl2
  obtain ⟨a, e0, _, _⟩ := DataW.trod_int Tryd.underlying3 f0
  obtain ⟨t, e1, _, wt⟩ := DataW.trod_string Tryd.underlying9 f1
  obtain ⟨l, rfl, hl⟩ := str_of t wt
  obtain ⟨A, n, c, L, e2, hq, hr⟩ := open_signs f2
  simp only [List.cons.injEq, and_true] at e0 e1 e2
  exact ⟨A, n, c, ⟨a, l, L⟩, by rw [e0, e1, e2], hq, hr, hl⟩
/-- A page that came in. -/
structure InPg (W : World) (A : Option Addr) (n c : Nat) (Ad : Option Addr) (nd cd : Nat) (Ap : Option Addr) (np cp : Nat) (p : Hd.Pg) : Prop where
  h : InH W A n c p.h
  at_ : -9223372036854775808 ≤ p.at_ ∧ p.at_ ≤ 9223372036854775807
  d : Bs W Ad nd cd p.doc
  s : Ss W Ap np cp p.path
  pl : ∀ s ∈ p.path, s.length ≤ maxLen
/-- A step that came in. -/
structure InSt (W : World) (A : Option Addr) (n c : Nat) (Ad : Option Addr) (nd cd : Nat) (Ap : Option Addr) (np cp : Nat) (p : Hd.Stp) : Prop where
  o : InH W A n c p.old
  n : InH W Ad nd cd p.new
  s : Ss W Ap np cp p.proof
  pl : ∀ s ∈ p.proof, s.length ≤ maxLen
set_option maxRecDepth 100000 in
theorem open_pageC {fuel : Nat} {cs : List Value} {x : DataW H × List MemPlace} (h : DataW.trod enc Tryd.prog W 0 (fun _ => true) true fuel 48 cs = some x) : ∃ (A : Option Addr) (n c : Nat) (Ad : Option Addr) (nd cd : Nat) (Ap : Option Addr) (np cp : Nat) (p : Hd.Pg), cs = [.int .i64 p.h.size, sv p.h.log, .slice A n c, .int .i64 p.at_, .slice Ad nd cd, .slice Ap np cp] ∧ InPg W A n c Ad nd cd Ap np cp p := by
  obtain ⟨y0, y1, y2, y3, m, _, hl, f0, f1, f2, f3⟩ := Go.Joins.trod_struct4 Tryd.underlying48 h
  have hl2 : cs.length = 6 := hl.trans (by kernel_rfl)
  obtain ⟨c0, c1, c2, c3, c4, c5, rfl⟩ := list6 hl2
  try dsimp only at f0
  rw [show Tryd.prog.cellsOf 24 = 3 by kernel_rfl] at f0
  have f0 : DataW.trod enc Tryd.prog W 0 (fun _ => true) true m 24 [c0, c1, c2] = some y0 := by simpa using f0
  try dsimp only at f1
  rw [show Tryd.prog.cellsOf 3 = 1 by kernel_rfl] at f1
  have f1 : DataW.trod enc Tryd.prog W 0 (fun _ => true) true m 3 [c3] = some y1 := by simpa using f1
  try dsimp only at f2
  rw [show Tryd.prog.cellsOf 30 = 1 by kernel_rfl] at f2
  have f2 : DataW.trod enc Tryd.prog W 0 (fun _ => true) true m 30 [c4] = some y2 := by simpa using f2
  try dsimp only at f3
  rw [show Tryd.prog.cellsOf 46 = 1 by kernel_rfl] at f3
  have f3 : DataW.trod enc Tryd.prog W 0 (fun _ => true) true m 46 [c5] = some y3 := by simpa using f3
  clear h hl hl2
  obtain ⟨A, n, c, hh, e0, hh1⟩ := open_headC f0
  obtain ⟨a, e1, _, wa⟩ := DataW.trod_int Tryd.underlying3 f1
  obtain ⟨Ad, nd, cd, ld, e2, hd⟩ := open_bytesC f2
  obtain ⟨Ap, np, cp, lp, e3, hp, hpl⟩ := open_strsC f3
  simp only [List.cons.injEq, and_true] at e0 e1 e2 e3
  exact ⟨A, n, c, Ad, nd, cd, Ap, np, cp, ⟨hh, a, ld, lp⟩, by rw [e0.1, e0.2.1, e0.2.2, e1, e2, e3], hh1, bounds_i64 wa, hd, hp, hpl⟩
set_option maxRecDepth 100000 in
theorem open_stepC {fuel : Nat} {cs : List Value} {x : DataW H × List MemPlace} (h : DataW.trod enc Tryd.prog W 0 (fun _ => true) true fuel 62 cs = some x) : ∃ (A : Option Addr) (n c : Nat) (Ad : Option Addr) (nd cd : Nat) (Ap : Option Addr) (np cp : Nat) (p : Hd.Stp), cs = [.int .i64 p.old.size, sv p.old.log, .slice A n c, .int .i64 p.new.size, sv p.new.log, .slice Ad nd cd, .slice Ap np cp] ∧ InSt W A n c Ad nd cd Ap np cp p := by
  obtain ⟨y0, y1, y2, m, _, hl, f0, f1, f2⟩ := Go.Deep.trod_struct3 Tryd.underlying62 h
  have hl2 : cs.length = 7 := hl.trans (by kernel_rfl)
  obtain ⟨c0, c1, c2, c3, c4, c5, c6, rfl⟩ := list7 hl2
  try dsimp only at f0
  rw [show Tryd.prog.cellsOf 24 = 3 by kernel_rfl] at f0
  have f0 : DataW.trod enc Tryd.prog W 0 (fun _ => true) true m 24 [c0, c1, c2] = some y0 := by simpa using f0
  try dsimp only at f1
  rw [show Tryd.prog.cellsOf 24 = 3 by kernel_rfl] at f1
  have f1 : DataW.trod enc Tryd.prog W 0 (fun _ => true) true m 24 [c3, c4, c5] = some y1 := by simpa using f1
  try dsimp only at f2
  rw [show Tryd.prog.cellsOf 46 = 1 by kernel_rfl] at f2
  have f2 : DataW.trod enc Tryd.prog W 0 (fun _ => true) true m 46 [c6] = some y2 := by simpa using f2
  clear h hl hl2
  obtain ⟨A, n, c, hh, e0, hh1⟩ := open_headC f0
  obtain ⟨Ad, nd, cd, hg, e1, hg1⟩ := open_headC f1
  obtain ⟨Ap, np, cp, lp, e3, hp, hpl⟩ := open_strsC f2
  simp only [List.cons.injEq, and_true] at e0 e1 e3
  exact ⟨A, n, c, Ad, nd, cd, Ap, np, cp, ⟨hh, hg, lp⟩, by rw [e0.1, e0.2.1, e0.2.2, e1.1, e1.2.1, e1.2.2, e3], hh1, hg1, hp, hpl⟩
set_option maxRecDepth 100000 in
theorem open_pageL (hv : Value.okWide Tryd.prog W r base 48 v) (h : DataW.Trod enc Tryd.prog W 0 (fun _ => true) true 48 v d p) :
    ∃ (A : Option Addr) (n c : Nat) (Ad : Option Addr) (nd cd : Nat) (Ap : Option Addr) (np cp : Nat) (p : Hd.Pg), v = .agg #[.int .i64 p.h.size, sv p.h.log, .slice A n c, .int .i64 p.at_, .slice Ad nd cd, .slice Ap np cp] ∧ InPg W A n c Ad nd cd Ap np cp p := by
  obtain ⟨cs, rfl, hsz⟩ := okWide_struct Tryd.underlying48 hv
  obtain ⟨fuel, hf⟩ := h
  obtain ⟨A, n, c, Ad, nd, cd, Ap, np, cp, p, e, hi⟩ := open_pageC (by simpa [Value.cells] using hf)
  exact ⟨A, n, c, Ad, nd, cd, Ap, np, cp, p, by rw [← e], hi⟩
set_option maxRecDepth 100000 in
theorem open_stepL (hv : Value.okWide Tryd.prog W r base 62 v) (h : DataW.Trod enc Tryd.prog W 0 (fun _ => true) true 62 v d p) :
    ∃ (A : Option Addr) (n c : Nat) (Ad : Option Addr) (nd cd : Nat) (Ap : Option Addr) (np cp : Nat) (p : Hd.Stp), v = .agg #[.int .i64 p.old.size, sv p.old.log, .slice A n c, .int .i64 p.new.size, sv p.new.log, .slice Ad nd cd, .slice Ap np cp] ∧ InSt W A n c Ad nd cd Ap np cp p := by
  obtain ⟨cs, rfl, hsz⟩ := okWide_struct Tryd.underlying62 hv
  obtain ⟨fuel, hf⟩ := h
  obtain ⟨A, n, c, Ad, nd, cd, Ap, np, cp, p, e, hi⟩ := open_stepC (by simpa [Value.cells] using hf)
  exact ⟨A, n, c, Ad, nd, cd, Ap, np, cp, p, by rw [← e], hi⟩
end
end Go.Proofs.YtfgpaepdlmnhaaaDoor
