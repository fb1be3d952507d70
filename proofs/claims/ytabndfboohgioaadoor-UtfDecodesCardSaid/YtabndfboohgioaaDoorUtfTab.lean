/- The walks of utf.Letter and utf.Small: the loops over the two tables. -/
import Derived.Test.YtabndfboohgioaaDoorUtfWalks
namespace Go.Proofs.YtabndfboohgioaaDoor
set_option linter.unusedVariables false
open Go.RowKit

def letCells : Array Value := #[.int .i64 65, .int .i64 90, .int .i64 97, .int .i64 122, .int .i64 192, .int .i64 214, .int .i64 216, .int .i64 246, .int .i64 248, .int .i64 255, .int .i64 913, .int .i64 929, .int .i64 931, .int .i64 937, .int .i64 945, .int .i64 969, .int .i64 1024, .int .i64 1119]
def shiCells : Array Value := #[.int .i64 65, .int .i64 90, .int .i64 32, .int .i64 192, .int .i64 214, .int .i64 32, .int .i64 216, .int .i64 222, .int .i64 32, .int .i64 913, .int .i64 929, .int .i64 32, .int .i64 931, .int .i64 937, .int .i64 32, .int .i64 1024, .int .i64 1039, .int .i64 80, .int .i64 1040, .int .i64 1071, .int .i64 32]
/-- The two package-level tables lie as they are written. -/
def Tabs (w : World) : Prop :=
  (∃ t fr, w.heap[0]? = some (.cells letCells t fr)) ∧ (∃ t fr, w.heap[1]? = some (.cells shiCells t fr))
theorem lt_of_heap {w : World} {g : Nat} {o : Obj} (h : w.heap[g]? = some o) : g < w.heap.size := by
  rcases Nat.lt_or_ge g w.heap.size with h1 | h1
  · exact h1
  · rw [Array.getElem?_eq_none h1] at h; cases h
theorem Tabs.below {w w' : World} (h : Tabs w) (hb : Below w.heap.size w w') : Tabs w' := by
  obtain ⟨⟨t, fr, h1⟩, ⟨t', fr', h2⟩⟩ := h
  exact ⟨⟨t, fr, (hb.block _ (lt_of_heap h1)).trans h1⟩, ⟨t', fr', (hb.block _ (lt_of_heap h2)).trans h2⟩⟩

def loL (k : Nat) : Int := (Utf.tabL.getD k (0, 0)).1
def hiL (k : Nat) : Int := (Utf.tabL.getD k (0, 0)).2
theorem index_let_0 : ∀ w : World, (Instr.index 41 (.agg letCells) (.int .i64 0)).run Tryd.prog w = .ok (.agg #[.int .i64 (loL 0), .int .i64 (hiL 0)]) w := fun _ => by kernel_rfl
theorem index_let_1 : ∀ w : World, (Instr.index 41 (.agg letCells) (.int .i64 1)).run Tryd.prog w = .ok (.agg #[.int .i64 (loL 1), .int .i64 (hiL 1)]) w := fun _ => by kernel_rfl
theorem index_let_2 : ∀ w : World, (Instr.index 41 (.agg letCells) (.int .i64 2)).run Tryd.prog w = .ok (.agg #[.int .i64 (loL 2), .int .i64 (hiL 2)]) w := fun _ => by kernel_rfl
theorem index_let_3 : ∀ w : World, (Instr.index 41 (.agg letCells) (.int .i64 3)).run Tryd.prog w = .ok (.agg #[.int .i64 (loL 3), .int .i64 (hiL 3)]) w := fun _ => by kernel_rfl
theorem index_let_4 : ∀ w : World, (Instr.index 41 (.agg letCells) (.int .i64 4)).run Tryd.prog w = .ok (.agg #[.int .i64 (loL 4), .int .i64 (hiL 4)]) w := fun _ => by kernel_rfl
theorem index_let_5 : ∀ w : World, (Instr.index 41 (.agg letCells) (.int .i64 5)).run Tryd.prog w = .ok (.agg #[.int .i64 (loL 5), .int .i64 (hiL 5)]) w := fun _ => by kernel_rfl
theorem index_let_6 : ∀ w : World, (Instr.index 41 (.agg letCells) (.int .i64 6)).run Tryd.prog w = .ok (.agg #[.int .i64 (loL 6), .int .i64 (hiL 6)]) w := fun _ => by kernel_rfl
theorem index_let_7 : ∀ w : World, (Instr.index 41 (.agg letCells) (.int .i64 7)).run Tryd.prog w = .ok (.agg #[.int .i64 (loL 7), .int .i64 (hiL 7)]) w := fun _ => by kernel_rfl
theorem index_let_8 : ∀ w : World, (Instr.index 41 (.agg letCells) (.int .i64 8)).run Tryd.prog w = .ok (.agg #[.int .i64 (loL 8), .int .i64 (hiL 8)]) w := fun _ => by kernel_rfl
theorem index_let (k : Nat) (hk : k < 9) (w : World) : (Instr.index 41 (.agg letCells) (.int .i64 (k : Int))).run Tryd.prog w = .ok (.agg #[.int .i64 (loL k), .int .i64 (hiL k)]) w := by
  match k, hk with
  | 0, _ => exact index_let_0 w
  | 1, _ => exact index_let_1 w
  | 2, _ => exact index_let_2 w
  | 3, _ => exact index_let_3 w
  | 4, _ => exact index_let_4 w
  | 5, _ => exact index_let_5 w
  | 6, _ => exact index_let_6 w
  | 7, _ => exact index_let_7 w
  | 8, _ => exact index_let_8 w
theorem letter_yes (c : Int) (k : Nat) (hk : k < 9) (h1 : loL k ≤ c) (h2 : c ≤ hiL k) : Utf.letter c = true := by
  unfold Utf.letter
  rw [List.any_eq_true]
  have hl : k < Utf.tabL.length := hk
  refine ⟨Utf.tabL[k], List.getElem_mem hl, ?_⟩
  have e : Utf.tabL[k] = Utf.tabL.getD k (0, 0) := by simp [List.getD, hl]
  rw [e]
  unfold loL at h1; unfold hiL at h2
  simp only [Bool.and_eq_true, decide_eq_true_eq]
  exact ⟨h1, h2⟩
theorem letter_no (c : Int) (h : ∀ j, j < 9 → ¬ (loL j ≤ c ∧ c ≤ hiL j)) : Utf.letter c = false := by
  unfold Utf.letter
  rw [List.any_eq_false]
  intro p hp
  obtain ⟨j, hj, rfl⟩ := List.getElem_of_mem hp
  have := h j hj
  have e : Utf.tabL[j] = Utf.tabL.getD j (0, 0) := by simp [List.getD, hj]
  rw [e]
  unfold loL hiL at this
  simpa using this
theorem let_step {f g : Nat → Int} {c : Int} {k : Nat} {lo hi : Int} (h : ∀ j, j < k → ¬ (f j ≤ c ∧ c ≤ g j)) (h1 : f k = lo) (h2 : g k = hi) (hn : ¬ (lo ≤ c ∧ c ≤ hi)) : ∀ j, j < k + 1 → ¬ (f j ≤ c ∧ c ≤ g j) := fun j hj => by
  rcases Nat.lt_or_ge j k with h' | h'
  · exact h j h'
  · obtain rfl : j = k := by omega
    rw [h1, h2]; exact hn
def LetPost (r : Bool) (w : World) (e : Ending) (w' : World) : Prop := e = .returned (.bool r) ∧ Below w.heap.size w w'
def IntPost (r : Int) (w : World) (e : Ending) (w' : World) : Prop := e = .returned (.int .i64 r) ∧ Below w.heap.size w w'

set_option maxRecDepth 100000 in
set_option maxHeartbeats 4000000 in
theorem letter_any (c : Int) (w : World) (ht : Tabs w) : Calls Tryd.prog 13 #[.int .i64 c] w (LetPost (Utf.letter c) w) := by
  obtain ⟨⟨tt, fr, hg⟩, _⟩ := ht
  go_enter Tryd.func13, Tryd.ntmps13
  go_wp2_with (refine wpList_load_row rfl 41 (.global 0) rfl 0 rfl tt letCells fr _ hg Tryd.underlying41 rfl (by kernel_rfl) ?_)
  clear hg
  go_loopw [6] (fun i wr => ∃ k : Nat, k ≤ 9 ∧ i = .int .i64 k ∧ Below w.heap.size w wr ∧ ∀ j, j < k → ¬ (loL j ≤ c ∧ c ≤ hiL j)) (fun i _ => 9 - (intOf i).toNat)
  case atStart => exact ⟨0, by omega, rfl, Below.refl _ _, fun j hj => by omega⟩
  case round =>
    obtain ⟨k, hk9, rfl, hb, hno⟩ := hrel
    have HN := Lib.hid hno
    have HB := Lib.hid hb
    have hB : w.heap.size ≤ wr.heap.size := hb.size
    clear hno hb
    by_cases hk : k < 9
    · obtain ⟨lo, hlo⟩ : ∃ x, loL k = x := ⟨_, rfl⟩
      obtain ⟨hi, hhi⟩ : ∃ x, hiL k = x := ⟨_, rfl⟩
      have hidx := index_let k hk
      have hyes := letter_yes c k hk
      rw [hlo, hhi] at hidx hyes
      have HY := Lib.hid hyes
      have HL := Lib.hid hlo
      have HH := Lib.hid hhi
      clear hyes hlo hhi
      by_cases g1 : lo ≤ c
      · by_cases g2 : c ≤ hi
        · go_wp2
          go_ret
          exact ⟨by rw [HY.out g1 g2]; simp, HB.out.alloc hB _⟩
        · go_wp2
          go_roundw
          case rel => exact ⟨k + 1, by omega, by go_num, HB.out.alloc hB _, let_step HN.out HL.out HH.out (by omega)⟩
          case measure => simp [intOf]; omega
      · go_wp2
        go_roundw
        case rel => exact ⟨k + 1, by omega, by go_num, HB.out.alloc hB _, let_step HN.out HL.out HH.out (by omega)⟩
        case measure => simp [intOf]; omega
    · obtain rfl : k = 9 := by omega
      have HF := Lib.hid (letter_no c HN.out)
      go_wp2
      go_ret
      exact ⟨by rw [HF.out]; simp, HB.out⟩

def loS (k : Nat) : Int := (Utf.tabS.getD k (0, 0, 0)).1
def hiS (k : Nat) : Int := (Utf.tabS.getD k (0, 0, 0)).2.1
def adS (k : Nat) : Int := (Utf.tabS.getD k (0, 0, 0)).2.2
theorem index_shi_0 : ∀ w : World, (Instr.index 45 (.agg shiCells) (.int .i64 0)).run Tryd.prog w = .ok (.agg #[.int .i64 (loS 0), .int .i64 (hiS 0), .int .i64 (adS 0)]) w := fun _ => by kernel_rfl
theorem index_shi_1 : ∀ w : World, (Instr.index 45 (.agg shiCells) (.int .i64 1)).run Tryd.prog w = .ok (.agg #[.int .i64 (loS 1), .int .i64 (hiS 1), .int .i64 (adS 1)]) w := fun _ => by kernel_rfl
theorem index_shi_2 : ∀ w : World, (Instr.index 45 (.agg shiCells) (.int .i64 2)).run Tryd.prog w = .ok (.agg #[.int .i64 (loS 2), .int .i64 (hiS 2), .int .i64 (adS 2)]) w := fun _ => by kernel_rfl
theorem index_shi_3 : ∀ w : World, (Instr.index 45 (.agg shiCells) (.int .i64 3)).run Tryd.prog w = .ok (.agg #[.int .i64 (loS 3), .int .i64 (hiS 3), .int .i64 (adS 3)]) w := fun _ => by kernel_rfl
theorem index_shi_4 : ∀ w : World, (Instr.index 45 (.agg shiCells) (.int .i64 4)).run Tryd.prog w = .ok (.agg #[.int .i64 (loS 4), .int .i64 (hiS 4), .int .i64 (adS 4)]) w := fun _ => by kernel_rfl
theorem index_shi_5 : ∀ w : World, (Instr.index 45 (.agg shiCells) (.int .i64 5)).run Tryd.prog w = .ok (.agg #[.int .i64 (loS 5), .int .i64 (hiS 5), .int .i64 (adS 5)]) w := fun _ => by kernel_rfl
theorem index_shi_6 : ∀ w : World, (Instr.index 45 (.agg shiCells) (.int .i64 6)).run Tryd.prog w = .ok (.agg #[.int .i64 (loS 6), .int .i64 (hiS 6), .int .i64 (adS 6)]) w := fun _ => by kernel_rfl
theorem index_shi (k : Nat) (hk : k < 7) (w : World) : (Instr.index 45 (.agg shiCells) (.int .i64 (k : Int))).run Tryd.prog w = .ok (.agg #[.int .i64 (loS k), .int .i64 (hiS k), .int .i64 (adS k)]) w := by
  match k, hk with
  | 0, _ => exact index_shi_0 w
  | 1, _ => exact index_shi_1 w
  | 2, _ => exact index_shi_2 w
  | 3, _ => exact index_shi_3 w
  | 4, _ => exact index_shi_4 w
  | 5, _ => exact index_shi_5 w
  | 6, _ => exact index_shi_6 w
theorem lo_bd (k : Nat) (hk : k < 7) : 65 ≤ loS k := by
  match k, hk with
  | 0, _ => decide
  | 1, _ => decide
  | 2, _ => decide
  | 3, _ => decide
  | 4, _ => decide
  | 5, _ => decide
  | 6, _ => decide
theorem hi_bd (k : Nat) (hk : k < 7) : hiS k ≤ 1071 := by
  match k, hk with
  | 0, _ => decide
  | 1, _ => decide
  | 2, _ => decide
  | 3, _ => decide
  | 4, _ => decide
  | 5, _ => decide
  | 6, _ => decide
theorem ad_bd (k : Nat) (hk : k < 7) : 0 ≤ adS k ∧ adS k ≤ 80 := by
  match k, hk with
  | 0, _ => decide
  | 1, _ => decide
  | 2, _ => decide
  | 3, _ => decide
  | 4, _ => decide
  | 5, _ => decide
  | 6, _ => decide
theorem smallIn_yes (c : Int) : ∀ (T : List (Int × Int × Int)) (k : Nat), k < T.length → (∀ j, j < k → ¬ ((T.getD j (0, 0, 0)).1 ≤ c ∧ c ≤ (T.getD j (0, 0, 0)).2.1)) → (T.getD k (0, 0, 0)).1 ≤ c → c ≤ (T.getD k (0, 0, 0)).2.1 →
    Utf.smallIn T c = c + (T.getD k (0, 0, 0)).2.2
  | [], k, h, _, _, _ => by simp at h
  | p :: T, 0, _, _, h1, h2 => by
    simp only [List.getD_cons_zero] at h1 h2 ⊢
    show (if _ then _ else _) = _
    rw [if_pos ⟨h1, h2⟩]
  | p :: T, k + 1, h, hn, h1, h2 => by
    simp only [List.getD_cons_succ] at h1 h2 ⊢
    show (if _ then _ else _) = _
    have h0 := hn 0 (by omega)
    simp only [List.getD_cons_zero] at h0
    rw [if_neg h0]
    exact smallIn_yes c T k (by simpa using h) (fun j hj => by have := hn (j + 1) (by omega); simpa only [List.getD_cons_succ] using this) h1 h2
theorem smallIn_no (c : Int) : ∀ (T : List (Int × Int × Int)), (∀ j, j < T.length → ¬ ((T.getD j (0, 0, 0)).1 ≤ c ∧ c ≤ (T.getD j (0, 0, 0)).2.1)) → Utf.smallIn T c = c
  | [], _ => rfl
  | p :: T, h => by
    show (if _ then _ else _) = _
    have h0 := h 0 (by simp)
    simp only [List.getD_cons_zero] at h0
    rw [if_neg h0]
    exact smallIn_no c T (fun j hj => by have := h (j + 1) (by simpa using hj); simpa only [List.getD_cons_succ] using this)
theorem small_yes (c : Int) (k : Nat) (hk : k < 7) (hn : ∀ j, j < k → ¬ (loS j ≤ c ∧ c ≤ hiS j)) (h1 : loS k ≤ c) (h2 : c ≤ hiS k) : Utf.small c = c + adS k := smallIn_yes c Utf.tabS k hk hn h1 h2
theorem small_no (c : Int) (h : ∀ j, j < 7 → ¬ (loS j ≤ c ∧ c ≤ hiS j)) : Utf.small c = c := smallIn_no c Utf.tabS h

set_option maxRecDepth 100000 in
set_option maxHeartbeats 4000000 in
theorem small_any (c : Int) (w : World) (ht : Tabs w) : Calls Tryd.prog 16 #[.int .i64 c] w (IntPost (Utf.small c) w) := by
  obtain ⟨_, ⟨tt, fr, hg⟩⟩ := ht
  go_enter Tryd.func16, Tryd.ntmps16
  go_wp2_with (refine wpList_load_row rfl 45 (.global 1) rfl 1 rfl tt shiCells fr _ hg Tryd.underlying45 rfl (by kernel_rfl) ?_)
  clear hg
  go_loopw [6] (fun i wr => ∃ k : Nat, k ≤ 7 ∧ i = .int .i64 k ∧ Below w.heap.size w wr ∧ ∀ j, j < k → ¬ (loS j ≤ c ∧ c ≤ hiS j)) (fun i _ => 7 - (intOf i).toNat)
  case atStart => exact ⟨0, by omega, rfl, Below.refl _ _, fun j hj => by omega⟩
  case round =>
    obtain ⟨k, hk9, rfl, hb, hno⟩ := hrel
    have HN := Lib.hid hno
    have HB := Lib.hid hb
    have hB : w.heap.size ≤ wr.heap.size := hb.size
    clear hno hb
    by_cases hk : k < 7
    · obtain ⟨lo, hlo⟩ : ∃ x, loS k = x := ⟨_, rfl⟩
      obtain ⟨hi, hhi⟩ : ∃ x, hiS k = x := ⟨_, rfl⟩
      obtain ⟨ad, had⟩ : ∃ x, adS k = x := ⟨_, rfl⟩
      have hidx := index_shi k hk
      have hyes := small_yes c k hk HN.out
      have hadb := ad_bd k hk
      have hhib := hi_bd k hk
      have hlob := lo_bd k hk
      rw [hlo, hhi, had] at hidx hyes
      rw [hlo] at hlob
      rw [hhi] at hhib
      rw [had] at hadb
      obtain ⟨ad0, ad1⟩ := hadb
      have HY := Lib.hid hyes
      have HL := Lib.hid hlo
      have HH := Lib.hid hhi
      clear hyes hlo hhi
      by_cases g1 : lo ≤ c
      · by_cases g2 : c ≤ hi
        · go_wp2
          go_ret
          exact ⟨by rw [HY.out g1 g2]; simp, HB.out.alloc hB _⟩
        · go_wp2
          go_roundw
          case rel => exact ⟨k + 1, by omega, by go_num, HB.out.alloc hB _, let_step HN.out HL.out HH.out (by omega)⟩
          case measure => simp [intOf]; omega
      · go_wp2
        go_roundw
        case rel => exact ⟨k + 1, by omega, by go_num, HB.out.alloc hB _, let_step HN.out HL.out HH.out (by omega)⟩
        case measure => simp [intOf]; omega
    · obtain rfl : k = 7 := by omega
      have HF := Lib.hid (small_no c HN.out)
      go_wp2
      go_ret
      exact ⟨by rw [HF.out]; simp, HB.out⟩
end Go.Proofs.YtabndfboohgioaaDoor
