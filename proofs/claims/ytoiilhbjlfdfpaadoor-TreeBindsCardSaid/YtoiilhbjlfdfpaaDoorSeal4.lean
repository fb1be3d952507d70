/- Is at alike bytes, Node's refusal, the examples of the document (knows), SealLens. -/
import Derived.Test.YtoiilhbjlfdfpaaDoorSeal3
import Derived.Deep.RegionWith
namespace Go.Proofs.YtoiilhbjlfdfpaaDoor
set_option linter.unusedVariables false
open Go.RowKit

theorem node_no (l r : List UInt8) (w : World) (hl : ¬ l.length = 32) : Calls Tryd.prog 30 #[sv l, sv r] w fun e w' => e = .returned (.tuple #[.string { data := #[] }, .int .i64 1]) ∧ w = w' := by
  obtain ⟨n, hn⟩ : ∃ n, l.length = n := ⟨_, rfl⟩
  have z1 : (str l).size = n := by rw [str_size]; exact hn
  rw [hn] at hl
  clear hn
  have h2 : ((n : Int) == 32) = false := by simpa using (by omega : ¬ (n : Int) = 32)
  go_enter Tryd.func30, Tryd.ntmps30
  go_wp2
  go_ret2
  exact ⟨rfl, rfl⟩
theorem d_field {P : Program} {V : Value → World → Prop} {w : World} {ρ : Operand → Value} {o : Oper} {c : Value} {T : TypeId} {x : Operand} {k : Nat} {cx : Value} (ho : o.op = .fieldAddr T x k) (hx : ρ x = cx) (hr : (Instr.fieldAt T cx k).run P w = .ok c w) (hV : V c w) : Free.Does P V w ρ o := by
  unfold Free.Does; simp only [execOp, ho, hx, Sem.run_bind, hr, Sem.run_pure, Result.andThen_ok]; exact ⟨hV, Below.refl _ _⟩
set_option maxRecDepth 100000 in
set_option maxHeartbeats 4000000 in
theorem is_same (A : Option Addr) (n c : Nat) (B : Option Addr) (m k : Nat) (l : List UInt8) (w : World) (hA : Rd w w.heap.size A (l.map bv)) (hl : l.length = n) (hB : Rd w w.heap.size B (l.map bv)) (hr : l.length = m) :
    Calls Tryd.prog 33 #[.agg #[.slice A n c, .slice B m k]] w fun e w' => e = .returned (.bool false) ∧ Below w.heap.size w w' := by
  obtain ⟨W0, hW0⟩ : ∃ W, w.alloc (.cells #[.slice A n c, .slice B m k] 52) = W := ⟨_, rfl⟩
  obtain ⟨h, hh⟩ : ∃ h, w.heap.size = h := ⟨_, rfl⟩
  have hrow : Row W0 h #[.slice A n c, .slice B m k] 52 := by rw [← hW0, ← hh]; exact row_new w _ _
  have hb0 : Below w.heap.size w W0 := by rw [← hW0]; exact (Below.refl _ w).alloc (Nat.le_refl _) _
  have hc0 : ∀ W, Below W0.heap.size W0 W → W.cell? ⟨h, 0, none⟩ = some (.slice A n c) := fun W hW => (Row.belowS hrow hW (Nat.le_refl _)).cellQ 0 _ rfl
  have hc1 : ∀ W, Below W0.heap.size W0 W → W.cell? ⟨h, 1, none⟩ = some (.slice B m k) := fun W hW => (Row.belowS hrow hW (Nat.le_refl _)).cellQ 1 _ rfl
  have he : ∀ W, Below W0.heap.size W0 W → Calls Tryd.prog 54 #[.slice A n c, .slice B m k] W fun e w' => e = .returned (.bool true) ∧ W = w' := fun W hW => by
    have hbw := bt hb0 hW
    exact (equal_any A n c l B m k l W ((hA.below' hbw (Nat.le_refl _)).more hbw.size) hl ((hB.below' hbw (Nat.le_refl _)).more hbw.size) hr).mono fun e w' h => ⟨by rw [h.1]; simp, h.2⟩
  have HB0 := Lib.hid hb0
  clear hA hB hl hr hrow hb0
  go_enter Tryd.func33, Tryd.ntmps33
  go_wp2_with fail
  (try rw [hW0]); (try rw [hh])
  refine Free.wp_free_l 16 (fun W => Below W0.heap.size W0 W) [Free.kc (.pointer (some ⟨h, 0, none⟩)), Free.kc (.slice A n c), Free.kc (.pointer (some ⟨h, 1, none⟩)), Free.kc (.slice B m k), Free.kc (.bool true), Free.kc (.bool false), Free.kc (.bool false), Free.kc (undef), Free.kc (undef), Free.kc (undef), Free.kc (undef), Free.kc (undef), Free.kc (undef), Free.kc (undef), Free.kc (.bool false), Free.kc (.bool false)] (by kernel_rfl) (by kernel_rfl) (by decide) (Below.refl _ _).drew (fun w w' h g => bt h g) ?_ ?_
  · refine Free.forall_succ (Free.forall_succ (Free.forall_succ (Free.forall_succ (Free.forall_succ (Free.forall_succ (Free.forall_succ (Free.forall_succ (Free.forall_succ (Free.forall_succ (Free.forall_succ (Free.forall_succ (Free.forall_succ (Free.forall_succ (Free.forall_succ (Free.forall_succ (Free.forall_zero) ?_) ?_) ?_) ?_) ?_) ?_) ?_) ?_) ?_) ?_) ?_) ?_) ?_) ?_) ?_) ?_
    · exact Free.ob_plain _ rfl rfl fun vals wq hC hd => (by exact d_field (cx := .pointer (some ⟨h, 0, none⟩)) rfl (by kernel_rfl) (by go_simp) rfl)
    · exact Free.ob_plain _ rfl rfl fun vals wq hC hd => (by exact Free.d_load rfl (Eq.trans (b := vals 0) (by kernel_rfl) (hd 0 (by kernel_rfl))) (by have hcc := hc0 wq hC; go_simp) rfl)
    · exact Free.ob_plain _ rfl rfl fun vals wq hC hd => (by exact d_field (cx := .pointer (some ⟨h, 0, none⟩)) rfl (by kernel_rfl) (by go_simp) rfl)
    · exact Free.ob_plain _ rfl rfl fun vals wq hC hd => (by exact Free.d_load rfl (Eq.trans (b := vals 2) (by kernel_rfl) (hd 2 (by kernel_rfl))) (by have hcc := hc1 wq hC; go_simp) rfl)
    · exact Free.ob_plain _ rfl rfl fun vals wq hC hd => (by exact Free.d_call Tryd.func54 (by kernel_rfl) (by kernel_rfl) rfl rfl (Free.arg2 (Eq.trans (b := vals 1) (by kernel_rfl) (hd 1 (by kernel_rfl))) (Eq.trans (b := vals 3) (by kernel_rfl) (hd 3 (by kernel_rfl)))) ((he wq hC).mono fun e w2 h => ⟨_, h.1, rfl, (by have h2 := h.2; subst h2; exact Below.refl _ _)⟩))
    · exact Free.ob_plain _ rfl rfl fun vals wq hC hd => (by exact Free.d_un rfl (Eq.trans (b := vals 4) (by kernel_rfl) (hd 4 (by kernel_rfl))) (by go_simp) rfl)
    · exact Free.ob_plain _ rfl rfl fun vals wq hC hd => (by exact Free.d_move rfl (Eq.trans (b := vals 5) (by kernel_rfl) (hd 5 (by kernel_rfl))) rfl)
    · exact Free.ob_skip _ rfl 6 9 true rfl rfl fun vals wq hC hd => ⟨.inl (Eq.trans (b := vals 6) (by kernel_rfl) (hd 6 (by kernel_rfl))), rfl⟩
    · exact Free.ob_skip _ rfl 6 9 true rfl rfl fun vals wq hC hd => ⟨.inl (Eq.trans (b := vals 6) (by kernel_rfl) (hd 6 (by kernel_rfl))), rfl⟩
    · exact Free.ob_skip _ rfl 6 9 true rfl rfl fun vals wq hC hd => ⟨.inl (Eq.trans (b := vals 6) (by kernel_rfl) (hd 6 (by kernel_rfl))), rfl⟩
    · exact Free.ob_skip _ rfl 6 9 true rfl rfl fun vals wq hC hd => ⟨.inl (Eq.trans (b := vals 6) (by kernel_rfl) (hd 6 (by kernel_rfl))), rfl⟩
    · exact Free.ob_skip _ rfl 6 9 true rfl rfl fun vals wq hC hd => ⟨.inl (Eq.trans (b := vals 6) (by kernel_rfl) (hd 6 (by kernel_rfl))), rfl⟩
    · exact Free.ob_skip _ rfl 6 9 true rfl rfl fun vals wq hC hd => ⟨.inl (Eq.trans (b := vals 6) (by kernel_rfl) (hd 6 (by kernel_rfl))), rfl⟩
    · exact Free.ob_skip _ rfl 6 9 true rfl rfl fun vals wq hC hd => ⟨.inl (Eq.trans (b := vals 6) (by kernel_rfl) (hd 6 (by kernel_rfl))), rfl⟩
    · exact Free.ob_plain _ rfl rfl fun vals wq hC hd => (by exact Free.d_pick rfl (Eq.trans (b := vals 6) (by kernel_rfl) (hd 6 (by kernel_rfl))) rfl rfl)
    · exact Free.ob_plain _ rfl rfl fun vals wq hC hd => (by exact Free.d_assign rfl (Eq.trans (b := vals 14) (by kernel_rfl) (hd 14 (by kernel_rfl))) rfl)
  · intro vals wq hC hd
    have e0 : vals 0 = (.pointer (some ⟨h, 0, none⟩)) := hd 0 (by decide)
    have e1 : vals 1 = (.slice A n c) := hd 1 (by decide)
    have e2 : vals 2 = (.pointer (some ⟨h, 1, none⟩)) := hd 2 (by decide)
    have e3 : vals 3 = (.slice B m k) := hd 3 (by decide)
    have e4 : vals 4 = (.bool true) := hd 4 (by decide)
    have e5 : vals 5 = (.bool false) := hd 5 (by decide)
    have e6 : vals 6 = (.bool false) := hd 6 (by decide)
    have e7 : vals 7 = (undef) := hd 7 (by decide)
    have e8 : vals 8 = (undef) := hd 8 (by decide)
    have e9 : vals 9 = (undef) := hd 9 (by decide)
    have e10 : vals 10 = (undef) := hd 10 (by decide)
    have e11 : vals 11 = (undef) := hd 11 (by decide)
    have e12 : vals 12 = (undef) := hd 12 (by decide)
    have e13 : vals 13 = (undef) := hd 13 (by decide)
    have e14 : vals 14 = (.bool false) := hd 14 (by decide)
    have e15 : vals 15 = (.bool false) := hd 15 (by decide)
    simp only [Free.frameOf, List.range, List.range.loop, List.foldl, Free.dstOf, List.getElem?_toArray, List.getElem?_cons_zero, List.getElem?_cons_succ, Option.bind_some, Act.put, List.setIfInBounds_toArray, List.set_cons_zero, List.set_cons_succ, e0, e1, e2, e3, e4, e5, e6, e7, e8, e9, e10, e11, e12, e13, e14, e15]
    refine wpList_nil ?_
    clear hd e0 e1 e2 e3 e4 e5 e6 e7 e8 e9 e10 e11 e12 e13 e14 e15
    go_wp2
    go_ret
    exact ⟨rfl, bt HB0.out hC⟩
def leafNilHex : List UInt8 := [54, 101, 51, 52, 48, 98, 57, 99, 102, 102, 98, 51, 55, 97, 57, 56, 57, 99, 97, 53, 52, 52, 101, 54, 98, 98, 55, 56, 48, 97, 50, 99, 55, 56, 57, 48, 49, 100, 51, 102, 98, 51, 51, 55, 51, 56, 55, 54, 56, 53, 49, 49, 97, 51, 48, 54, 49, 55, 97, 102, 97, 48, 49, 100]
theorem leaf_nil : Hex.hex (seal_ 0 []) = leafNilHex := by decide +kernel
theorem leafNil_same : ((str leafNilHex).toList == [54, 101, 51, 52, 48, 98, 57, 99, 102, 102, 98, 51, 55, 97, 57, 56, 57, 99, 97, 53, 52, 52, 101, 54, 98, 98, 55, 56, 48, 97, 50, 99, 55, 56, 57, 48, 49, 100, 51, 102, 98, 51, 51, 55, 51, 56, 55, 54, 56, 53, 49, 49, 97, 51, 48, 54, 49, 55, 97, 102, 97, 48, 49, 100]) = true := by
  rw [str_toList]; decide
end Go.Proofs.YtoiilhbjlfdfpaaDoor
