/- New, valid and Add, of the package that sums. No statement of the seat is proved here. -/
import Derived.Test.YtoiilhbjlfdfpaaDoorShaProc
import Derived.BigRegion
namespace Go.Proofs.YtoiilhbjlfdfpaaDoor
set_option linter.unusedVariables false
open Go.RowKit

/-- A state, as a value: its words, what has not been processed, the number of bytes. -/
abbrev tv (s : Sha.St) (v : Value) (n : Int) : Value := .agg #[.int .u32 (nv s.a), .int .u32 (nv s.b), .int .u32 (nv s.c), .int .u32 (nv s.d), .int .u32 (nv s.e), .int .u32 (nv s.f), .int .u32 (nv s.g), .int .u32 (nv s.h), v, .int .i64 n]
def vld (N : Int) (n : Nat) : Bool := decide (0 ≤ N ∧ N ≤ 1099511627776 ∧ (n : Int) = N % 64)
def VldPost (N : Int) (n : Nat) (w : World) (e : Ending) (w' : World) : Prop := e = .returned (.bool (vld N n)) ∧ Below w.heap.size w w'
theorem vld_mk {N : Int} {n : Nat} {w w' : World} {b : Bool} (h : vld N n = b) (hb : Below w.heap.size w w') : VldPost N n w (.returned (.bool b)) w' := ⟨by rw [h], hb⟩
/-- The first words lie as they are written. -/
def BeginLies (w : World) : Prop := 0 < w.heap.size ∧ Eight w 0 Sha.begin_
theorem BeginLies.below {w w' : World} {B : Nat} (h : BeginLies w) (hb : Below B w w') (hB : w.heap.size ≤ B) : BeginLies w' := by
  have k := fun (j : Nat) => hb.cell (p := ⟨0, j, none⟩) (Nat.lt_of_lt_of_le h.1 hB)
  obtain ⟨h1, h2⟩ := h
  exact ⟨Nat.lt_of_lt_of_le h1 hb.size, (k 0).trans h2.c0, (k 1).trans h2.c1, (k 2).trans h2.c2, (k 3).trans h2.c3, (k 4).trans h2.c4, (k 5).trans h2.c5, (k 6).trans h2.c6, (k 7).trans h2.c7⟩
theorem begin_av : av Sha.begin_ = .agg #[.int .u32 1779033703, .int .u32 3144134277, .int .u32 1013904242, .int .u32 2773480762, .int .u32 1359893119, .int .u32 2600822924, .int .u32 528734635, .int .u32 1541459225] := by rfl

set_option maxHeartbeats 4000000 in
theorem valid_any (s : Sha.St) (A : Option Addr) (n c : Nat) (N : Int) (w : World) (hc : n ≤ c) (hm : c ≤ maxLen) : Calls Tryd.prog 65 #[tv s (.slice A n c) N] w (VldPost N n w) := by
  rw [maxLen_eq] at hm
  have fin : ∀ (b : Bool), vld N n = b → VldPost N n w (.returned (.bool b)) (w.alloc (.cells #[.int .u32 (nv s.a), .int .u32 (nv s.b), .int .u32 (nv s.c), .int .u32 (nv s.d), .int .u32 (nv s.e), .int .u32 (nv s.f), .int .u32 (nv s.g), .int .u32 (nv s.h), .slice A n c, .int .i64 N] 70)) := fun b hb => vld_mk hb ((Below.refl _ w).alloc (Nat.le_refl _) _)
  by_cases h1 : 0 ≤ N
  · by_cases h2 : N ≤ 1099511627776
    · have h4 : N.tmod 64 = N % 64 := Int.tmod_eq_emod_of_nonneg h1
      by_cases h3 : (n : Int) = N % 64
      · have HV := Lib.hid (fin true (by unfold vld; simp [h1, h2, h3]))
        clear fin
        go_enter Tryd.func65, Tryd.ntmps65
        go_wp2
        go_ret
        exact HV.out
      · have HV := Lib.hid (fin ((n : Int) == N % 64) (by unfold vld; simp [h3]))
        clear fin
        go_enter Tryd.func65, Tryd.ntmps65
        go_wp2
        go_ret
        exact HV.out
    · have HV := Lib.hid (fin false (by unfold vld; simp [h2]))
      clear fin
      go_enter Tryd.func65, Tryd.ntmps65
      go_wp2
      go_ret
      exact HV.out
  · have HV := Lib.hid (fin false (by unfold vld; simp [h1]))
    clear fin
    go_enter Tryd.func65, Tryd.ntmps65
    go_wp2
    go_ret
    exact HV.out

def NewPost (w : World) (e : Ending) (w' : World) : Prop := e = .returned (tv Sha.begin_ (.slice none 0 0) 0) ∧ Below w.heap.size w w'
set_option maxHeartbeats 4000000 in
theorem new_any (w : World) (hB : BeginLies w) : Calls Tryd.prog 53 #[] w (NewPost w) := by
  obtain ⟨hlt, c0, c1, c2, c3, c4, c5, c6, c7⟩ := hB
  obtain ⟨t, ht⟩ : ∃ t, Sha.begin_ = t := ⟨_, rfl⟩
  have HT := Lib.hid ht
  rw [ht] at c0 c1 c2 c3 c4 c5 c6 c7
  clear ht
  have HL := Lib.hid hlt
  clear hlt
  have d := fun (o : Obj) (j : Nat) => World.cell?_alloc_lt w o ⟨0, j, none⟩ HL.out
  have e0 := fun o => (d o 0).trans c0
  have e1 := fun o => (d o 1).trans c1
  have e2 := fun o => (d o 2).trans c2
  have e3 := fun o => (d o 3).trans c3
  have e4 := fun o => (d o 4).trans c4
  have e5 := fun o => (d o 5).trans c5
  have e6 := fun o => (d o 6).trans c6
  have e7 := fun o => (d o 7).trans c7
  clear d
  go_enter Tryd.func53, Tryd.ntmps53
  go_wp2
  refine bodyPost_ret (v := tv t (.slice none 0 0) 0) (by simp [results, Tryd.results53, go_sem]) rfl ⟨by rw [HT.out], ?_⟩
  first
    | exact (Below.refl _ w).alloc (Nat.le_refl _) _
    | exact below_setFrom (Nat.le_refl _) [_, _, _, _, _, _, _, _, _, _] 0 ((Below.refl _ w).alloc (Nat.le_refl _) _)
    | trace_state
end Go.Proofs.YtoiilhbjlfdfpaaDoor
