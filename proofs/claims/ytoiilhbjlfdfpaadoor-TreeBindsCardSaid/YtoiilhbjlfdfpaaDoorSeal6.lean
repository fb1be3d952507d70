/- Clash of the reference, bytes.Clone, Is, of the package seal. No statement of the seat is proved here. -/
import Derived.Test.YtoiilhbjlfdfpaaDoorSeal4
import Derived.Test.YtoiilhbjlfdfpaaDoorSeal5
namespace Go.Proofs.YtoiilhbjlfdfpaaDoor
set_option linter.unusedVariables false
open Go.RowKit

/-- Two lists of bytes are a clash. -/
def clashB (a b : List UInt8) : Bool := decide (Sha.sum a = Sha.sum b) && decide (a ≠ b)
theorem streq (a b : List UInt8) : ((str a).toList == (str b).toList) = decide (a = b) := by
  rw [str_toList, str_toList]
  by_cases h : a = b <;> simp [h]
theorem strne (a b : List UInt8) : ((str a).toList != (str b).toList) = decide (a ≠ b) := by
  rw [str_toList, str_toList]
  by_cases h : a = b <;> simp [h]
def BoolPost (v : Bool) (w : World) (e : Ending) (w' : World) : Prop := e = .returned (.bool v) ∧ Below w.heap.size w w'
def ClonePost (n : Nat) (l : List UInt8) (w : World) (e : Ending) (w' : World) : Prop :=
  ∃ A c, e = .returned (.slice A n c) ∧ w'.ownsRow w.heap.size 5 1 (.slice A n c) n (l.map bv) ∧ n ≤ c ∧ c ≤ maxLen ∧ Below w.heap.size w w'
set_option maxRecDepth 100000 in
set_option maxHeartbeats 4000000 in
theorem is_diff (A : Option Addr) (n c : Nat) (B : Option Addr) (m k : Nat) (a b : List UInt8) (w : World) (hA : Rd w w.heap.size A (a.map bv)) (hl : a.length = n) (hc : n ≤ c) (hm : c ≤ maxLen) (hn : n ≤ 1000000)
    (hB : Rd w w.heap.size B (b.map bv)) (hr : b.length = m) (hk : m ≤ k) (hk2 : k ≤ maxLen) (hn2 : m ≤ 1000000) (hne : a ≠ b) (ht : Tabs w) :
    Calls Tryd.prog 33 #[.agg #[.slice A n c, .slice B m k]] w fun e w' => e = .returned (.bool (decide (Sha.sum a = Sha.sum b))) ∧ Below w.heap.size w w' := by
  obtain ⟨W0, hW0⟩ : ∃ W, w.alloc (.cells #[.slice A n c, .slice B m k] 52) = W := ⟨_, rfl⟩
  obtain ⟨h, hh⟩ : ∃ h, w.heap.size = h := ⟨_, rfl⟩
  have hrow : Row W0 h #[.slice A n c, .slice B m k] 52 := by rw [← hW0, ← hh]; exact row_new w _ _
  have hb0 : Below w.heap.size w W0 := by rw [← hW0]; exact (Below.refl _ w).alloc (Nat.le_refl _) _
  have hc0 : ∀ W, Below W0.heap.size W0 W → W.cell? ⟨h, 0, none⟩ = some (.slice A n c) := fun W hW => (Row.belowS hrow hW (Nat.le_refl _)).cellQ 0 _ rfl
  have hc1 : ∀ W, Below W0.heap.size W0 W → W.cell? ⟨h, 1, none⟩ = some (.slice B m k) := fun W hW => (Row.belowS hrow hW (Nat.le_refl _)).cellQ 1 _ rfl
  have he : ∀ W, Below W0.heap.size W0 W → Calls Tryd.prog 54 #[.slice A n c, .slice B m k] W fun e w' => e = .returned (.bool false) ∧ W = w' := fun W hW => by
    have hbw := bt hb0 hW
    exact (equal_any A n c a B m k b W ((hA.below' hbw (Nat.le_refl _)).more hbw.size) hl ((hB.below' hbw (Nat.le_refl _)).more hbw.size) hr).mono fun e w' h => ⟨by rw [h.1]; simp [hne], h.2⟩
  obtain ⟨S, hS⟩ : ∃ S, Sha.sum a = S := ⟨_, rfl⟩
  obtain ⟨T, hT⟩ : ∃ T, Sha.sum b = T := ⟨_, rfl⟩
  have hs1 : ∀ W, Below W0.heap.size W0 W → Calls Tryd.prog 31 #[.slice A n c] W fun e w' => e = .returned (sv S) ∧ Below W.heap.size W w' := fun W hW => by
    have hbw := bt hb0 hW
    have htw := ht.below hbw
    have h := sum_any A n c a W ((hA.below' hbw (Nat.le_refl _)).more hbw.size) hl hc hm (by omega) htw.r htw.b
    unfold SumPost at h
    rw [hS] at h
    exact h
  have hs2 : ∀ W, Below W0.heap.size W0 W → Calls Tryd.prog 31 #[.slice B m k] W fun e w' => e = .returned (sv T) ∧ Below W.heap.size W w' := fun W hW => by
    have hbw := bt hb0 hW
    have htw := ht.below hbw
    have h := sum_any B m k b W ((hB.below' hbw (Nat.le_refl _)).more hbw.size) hr hk hk2 (by omega) htw.r htw.b
    unfold SumPost at h
    rw [hT] at h
    exact h
  rw [hS, hT]
  have HB0 := Lib.hid hb0
  clear hA hB hl hr hrow hb0 hS hT hne ht
  go_enter Tryd.func33, Tryd.ntmps33
  go_wp2_with fail
  (try rw [hW0]); (try rw [hh])
  refine Free.wp_free_l 16 (fun W => Below W0.heap.size W0 W) [Free.kc (.pointer (some ⟨h, 0, none⟩)), Free.kc (.slice A n c), Free.kc (.pointer (some ⟨h, 1, none⟩)), Free.kc (.slice B m k), Free.kc (.bool false), Free.kc (.bool true), Free.kc (.bool true), Free.kc (.pointer (some ⟨h, 0, none⟩)), Free.kc (.slice A n c), Free.kc (sv S), Free.kc (.pointer (some ⟨h, 1, none⟩)), Free.kc (.slice B m k), Free.kc (sv T), Free.kc (.bool (decide (S = T))), Free.kc (.bool (decide (S = T))), Free.kc (.bool (decide (S = T)))] (by kernel_rfl) (by kernel_rfl) (by decide) (Below.refl _ _).drew (fun w w' h g => bt h g) ?_ ?_
  · refine Free.forall_succ (Free.forall_succ (Free.forall_succ (Free.forall_succ (Free.forall_succ (Free.forall_succ (Free.forall_succ (Free.forall_succ (Free.forall_succ (Free.forall_succ (Free.forall_succ (Free.forall_succ (Free.forall_succ (Free.forall_succ (Free.forall_succ (Free.forall_succ (Free.forall_zero) ?_) ?_) ?_) ?_) ?_) ?_) ?_) ?_) ?_) ?_) ?_) ?_) ?_) ?_) ?_) ?_
    · exact Free.ob_plain _ rfl rfl fun vals wq hC hd => (by exact d_field (cx := .pointer (some ⟨h, 0, none⟩)) rfl (by kernel_rfl) (by go_simp) rfl)
    · exact Free.ob_plain _ rfl rfl fun vals wq hC hd => (by exact Free.d_load rfl (Eq.trans (b := vals 0) (by kernel_rfl) (hd 0 (by kernel_rfl))) (by have hcc := hc0 wq hC; go_simp) rfl)
    · exact Free.ob_plain _ rfl rfl fun vals wq hC hd => (by exact d_field (cx := .pointer (some ⟨h, 0, none⟩)) rfl (by kernel_rfl) (by go_simp) rfl)
    · exact Free.ob_plain _ rfl rfl fun vals wq hC hd => (by exact Free.d_load rfl (Eq.trans (b := vals 2) (by kernel_rfl) (hd 2 (by kernel_rfl))) (by have hcc := hc1 wq hC; go_simp) rfl)
    · exact Free.ob_plain _ rfl rfl fun vals wq hC hd => (by exact Free.d_call Tryd.func54 (by kernel_rfl) (by kernel_rfl) rfl rfl (Free.arg2 (Eq.trans (b := vals 1) (by kernel_rfl) (hd 1 (by kernel_rfl))) (Eq.trans (b := vals 3) (by kernel_rfl) (hd 3 (by kernel_rfl)))) ((he wq hC).mono fun e w2 h => ⟨_, h.1, rfl, (by have h2 := h.2; subst h2; exact Below.refl _ _)⟩))
    · exact Free.ob_plain _ rfl rfl fun vals wq hC hd => (by exact Free.d_un rfl (Eq.trans (b := vals 4) (by kernel_rfl) (hd 4 (by kernel_rfl))) (by go_simp) rfl)
    · exact Free.ob_plain _ rfl rfl fun vals wq hC hd => (by exact Free.d_move rfl (Eq.trans (b := vals 5) (by kernel_rfl) (hd 5 (by kernel_rfl))) rfl)
    · exact Free.ob_guard _ rfl 6 9 true rfl rfl fun vals wq hC hd => ⟨Eq.trans (b := vals 6) (by kernel_rfl) (hd 6 (by kernel_rfl)), (by exact d_field (cx := .pointer (some ⟨h, 0, none⟩)) rfl (by kernel_rfl) (by go_simp) rfl)⟩
    · exact Free.ob_guard _ rfl 6 9 true rfl rfl fun vals wq hC hd => ⟨Eq.trans (b := vals 6) (by kernel_rfl) (hd 6 (by kernel_rfl)), (by exact Free.d_load rfl (Eq.trans (b := vals 7) (by kernel_rfl) (hd 7 (by kernel_rfl))) (by have hcc := hc0 wq hC; go_simp) rfl)⟩
    · exact Free.ob_guard _ rfl 6 9 true rfl rfl fun vals wq hC hd => ⟨Eq.trans (b := vals 6) (by kernel_rfl) (hd 6 (by kernel_rfl)), (by exact Free.d_call Tryd.func31 (by kernel_rfl) (by kernel_rfl) rfl rfl (Free.arg1 (Eq.trans (b := vals 8) (by kernel_rfl) (hd 8 (by kernel_rfl)))) ((hs1 wq hC).mono fun e w2 h => ⟨_, h.1, rfl, h.2⟩))⟩
    · exact Free.ob_guard _ rfl 6 9 true rfl rfl fun vals wq hC hd => ⟨Eq.trans (b := vals 6) (by kernel_rfl) (hd 6 (by kernel_rfl)), (by exact d_field (cx := .pointer (some ⟨h, 0, none⟩)) rfl (by kernel_rfl) (by go_simp) rfl)⟩
    · exact Free.ob_guard _ rfl 6 9 true rfl rfl fun vals wq hC hd => ⟨Eq.trans (b := vals 6) (by kernel_rfl) (hd 6 (by kernel_rfl)), (by exact Free.d_load rfl (Eq.trans (b := vals 10) (by kernel_rfl) (hd 10 (by kernel_rfl))) (by have hcc := hc1 wq hC; go_simp) rfl)⟩
    · exact Free.ob_guard _ rfl 6 9 true rfl rfl fun vals wq hC hd => ⟨Eq.trans (b := vals 6) (by kernel_rfl) (hd 6 (by kernel_rfl)), (by exact Free.d_call Tryd.func31 (by kernel_rfl) (by kernel_rfl) rfl rfl (Free.arg1 (Eq.trans (b := vals 11) (by kernel_rfl) (hd 11 (by kernel_rfl)))) ((hs2 wq hC).mono fun e w2 h => ⟨_, h.1, rfl, h.2⟩))⟩
    · exact Free.ob_guard _ rfl 6 9 true rfl rfl fun vals wq hC hd => ⟨Eq.trans (b := vals 6) (by kernel_rfl) (hd 6 (by kernel_rfl)), (by exact Free.d_bin rfl (Eq.trans (b := vals 9) (by kernel_rfl) (hd 9 (by kernel_rfl))) (Eq.trans (b := vals 12) (by kernel_rfl) (hd 12 (by kernel_rfl))) (by go_simp) (run_eql_str _ _ _) rfl)⟩
    · exact Free.ob_plain _ rfl rfl fun vals wq hC hd => (by exact Free.d_pick rfl (Eq.trans (b := vals 6) (by kernel_rfl) (hd 6 (by kernel_rfl))) (Eq.trans (b := vals 13) (by kernel_rfl) (hd 13 (by kernel_rfl))) rfl)
    · exact Free.ob_plain _ rfl rfl fun vals wq hC hd => (by exact Free.d_assign rfl (Eq.trans (b := vals 14) (by kernel_rfl) (hd 14 (by kernel_rfl))) rfl)
  · intro vals wq hC hd
    have e0 : vals 0 = (.pointer (some ⟨h, 0, none⟩)) := hd 0 (by decide)
    have e1 : vals 1 = (.slice A n c) := hd 1 (by decide)
    have e2 : vals 2 = (.pointer (some ⟨h, 1, none⟩)) := hd 2 (by decide)
    have e3 : vals 3 = (.slice B m k) := hd 3 (by decide)
    have e4 : vals 4 = (.bool false) := hd 4 (by decide)
    have e5 : vals 5 = (.bool true) := hd 5 (by decide)
    have e6 : vals 6 = (.bool true) := hd 6 (by decide)
    have e7 : vals 7 = (.pointer (some ⟨h, 0, none⟩)) := hd 7 (by decide)
    have e8 : vals 8 = (.slice A n c) := hd 8 (by decide)
    have e9 : vals 9 = (sv S) := hd 9 (by decide)
    have e10 : vals 10 = (.pointer (some ⟨h, 1, none⟩)) := hd 10 (by decide)
    have e11 : vals 11 = (.slice B m k) := hd 11 (by decide)
    have e12 : vals 12 = (sv T) := hd 12 (by decide)
    have e13 : vals 13 = (.bool (decide (S = T))) := hd 13 (by decide)
    have e14 : vals 14 = (.bool (decide (S = T))) := hd 14 (by decide)
    have e15 : vals 15 = (.bool (decide (S = T))) := hd 15 (by decide)
    simp only [Free.frameOf, List.range, List.range.loop, List.foldl, Free.dstOf, List.getElem?_toArray, List.getElem?_cons_zero, List.getElem?_cons_succ, Option.bind_some, Act.put, List.setIfInBounds_toArray, List.set_cons_zero, List.set_cons_succ, e0, e1, e2, e3, e4, e5, e6, e7, e8, e9, e10, e11, e12, e13, e14, e15]
    refine wpList_nil ?_
    clear hd e0 e1 e2 e3 e4 e5 e6 e7 e8 e9 e10 e11 e12 e13 e14 e15
    go_wp2
    go_ret
    exact ⟨rfl, bt HB0.out hC⟩
theorem is_any (A : Option Addr) (n c : Nat) (B : Option Addr) (m k : Nat) (a b : List UInt8) (w : World) (hA : Rd w w.heap.size A (a.map bv)) (hl : a.length = n) (hc : n ≤ c) (hm : c ≤ maxLen) (hn : n ≤ 1000000)
    (hB : Rd w w.heap.size B (b.map bv)) (hr : b.length = m) (hk : m ≤ k) (hk2 : k ≤ maxLen) (hn2 : m ≤ 1000000) (ht : Tabs w) :
    Calls Tryd.prog 33 #[.agg #[.slice A n c, .slice B m k]] w (BoolPost (clashB a b) w) := by
  by_cases h : a = b
  · subst h
    refine (is_same A n c B m k a w hA hl hB hr).mono fun e w' h => ⟨?_, h.2⟩
    rw [h.1]; simp [clashB]
  · refine (is_diff A n c B m k a b w hA hl hc hm hn hB hr hk hk2 hn2 h ht).mono fun e w' h' => ⟨?_, h'.2⟩
    rw [h'.1]; simp [clashB, h]
end Go.Proofs.YtoiilhbjlfdfpaaDoor
