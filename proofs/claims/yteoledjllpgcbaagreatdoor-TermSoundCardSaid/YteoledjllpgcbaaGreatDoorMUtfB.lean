/- MUtfB: several texts of this claim in one file. No statement of the seat is proved here. -/
import Derived.Test.YteoledjllpgcbaaGreatDoorMBase
import Derived.Test.YteoledjllpgcbaaGreatDoorMUtfA
namespace Go.Proofs.YteoledjllpgcbaaGreatDoor.Ut
set_option maxRecDepth 100000
set_option maxHeartbeats 64000000
set_option linter.unusedVariables false
open Go.RowKit
theorem info_u8 : (Tryz.prog.info? 5).map (fun i => (i.zero, i.size, i.bytes)) = some (some (.int .u8 0), 1, 1) := by kernel_rfl
theorem info_int : (Tryz.prog.info? 3).map (fun i => (i.zero, i.size, i.bytes)) = some (some (.int .i64 0), 1, 8) := by kernel_rfl
theorem size_u8 : (Tryz.prog.info? 5).map (·.size) = some 1 := by kernel_rfl
theorem bytesT : ElemT Tryz.prog 28 5 1 1 := ElemT.mk' Tryz.underlying28 info_u8 rfl (by omega)
theorem intsT : ElemT Tryz.prog 43 3 1 8 := ElemT.mk' Tryz.underlying43 info_int rfl (by omega)
theorem right_any (c : Int) (w : World) : Calls Tryz.prog 143 #[.int .i64 c] w fun e w' => e = .returned (.bool (Utf.right c)) ∧ w = w' := by
 obtain ⟨r, hr⟩ : ∃ r, Utf.right c = r := ⟨_, rfl⟩
 rw [hr]
 unfold Utf.right at hr
 by_cases h1 : 0 ≤ c
 ·
  by_cases h2 : c ≤ 1114111
  ·
   by_cases h3 : c < 55296
   ·
    obtain rfl : true = r := by rw [← hr]; simp [h1, h2, h3]
    clear hr
    go_enter Tryz.func143, Tryz.ntmps143
    go_wp2
    go_ret
    exact ⟨rfl, rfl⟩
   ·
    by_cases h4 : 57343 < c
    ·
     obtain rfl : true = r := by rw [← hr]; simp [h1, h2, h4]
     clear hr
     go_enter Tryz.func143, Tryz.ntmps143
     go_wp2
     go_ret
     exact ⟨rfl, rfl⟩
    ·
     obtain rfl : false = r := by rw [← hr]; simp [h1, h2, h3, h4]
     clear hr
     go_enter Tryz.func143, Tryz.ntmps143
     go_wp2
     go_ret
     exact ⟨rfl, rfl⟩
  ·
   obtain rfl : false = r := by rw [← hr]; simp [h1, h2]
   clear hr
   go_enter Tryz.func143, Tryz.ntmps143
   go_wp2
   go_ret
   exact ⟨rfl, rfl⟩
 ·
  obtain rfl : false = r := by rw [← hr]; simp [h1]
  clear hr
  go_enter Tryz.func143, Tryz.ntmps143
  go_wp2
  go_ret
  exact ⟨rfl, rfl⟩
theorem udigit_any (c : Int) (w : World) : Calls Tryz.prog 116 #[.int .i64 c] w fun e w' => e = .returned (.bool (Utf.digit c)) ∧ w = w' := by
 obtain ⟨r, hr⟩ : ∃ r, Utf.digit c = r := ⟨_, rfl⟩
 rw [hr]
 unfold Utf.digit at hr
 by_cases h1 : 48 ≤ c
 ·
  by_cases h2 : c ≤ 57
  ·
   obtain rfl : true = r := by rw [← hr]; simp [h1, h2]
   clear hr
   go_enter Tryz.func116, Tryz.ntmps116
   go_wp2
   go_ret
   exact ⟨rfl, rfl⟩
  ·
   obtain rfl : false = r := by rw [← hr]; simp [h2]
   clear hr
   go_enter Tryz.func116, Tryz.ntmps116
   go_wp2
   go_ret
   exact ⟨rfl, rfl⟩
 ·
  obtain rfl : false = r := by rw [← hr]; simp [h1]
  clear hr
  go_enter Tryz.func116, Tryz.ntmps116
  go_wp2
  go_ret
  exact ⟨rfl, rfl⟩
theorem size_any (c : Int) (w : World) : Calls Tryz.prog 144 #[.int .i64 c] w fun e w' => e = .returned (.int .i64 (Utf.size c)) ∧ w = w' := by
 obtain ⟨r, hr⟩ : ∃ r, Utf.size c = r := ⟨_, rfl⟩
 rw [hr]
 unfold Utf.size at hr
 by_cases h1 : c < 128
 ·
  obtain rfl : 1 = r := by rw [← hr]; simp [h1]
  clear hr
  go_enter Tryz.func144, Tryz.ntmps144
  go_wp2
  go_ret
  exact ⟨rfl, rfl⟩
 ·
  by_cases h2 : c < 2048
  ·
   obtain rfl : 2 = r := by rw [← hr]; simp [h1, h2]
   clear hr
   go_enter Tryz.func144, Tryz.ntmps144
   go_wp2
   go_ret
   exact ⟨rfl, rfl⟩
  ·
   by_cases h3 : c < 65536
   ·
    obtain rfl : 3 = r := by rw [← hr]; simp [h1, h2, h3]
    clear hr
    go_enter Tryz.func144, Tryz.ntmps144
    go_wp2
    go_ret
    exact ⟨rfl, rfl⟩
   ·
    obtain rfl : 4 = r := by rw [← hr]; simp [h1, h2, h3]
    clear hr
    go_enter Tryz.func144, Tryz.ntmps144
    go_wp2
    go_ret
    exact ⟨rfl, rfl⟩
theorem more_any (c : Int) (w : World) (h0 : 0 ≤ c) (h1 : c ≤ 1114111) : Calls Tryz.prog 145 #[.int .i64 c] w fun e w' => e = .returned (.int .u8 (128 + c % 64)) ∧ w = w' := by
 have e1 : bits .and .i64 c 63 = c % 64 := Bit.mask 6 c 63 64 h0 (by omega) (by omega) rfl rfl
 have e2 : bits .or .u8 128 (c % 64 % 256) = 128 + c % 64 := by
  rw [Bit.join8 6 128 (c % 64 % 256) 64 rfl (by omega) (by omega) (by omega) (by omega) (by omega) (by omega)]; omega
 have E1 := Lib.hid e1
 have E2 := Lib.hid e2
 clear e1 e2
 go_enter Tryz.func145, Tryz.ntmps145
 go_wp2
 go_ret
 exact ⟨by simp [E1.out, E2.out], rfl⟩
theorem enc_right (c : Int) (h : Utf.right c = true) : 0 ≤ c ∧ c ≤ 1114111 := by
 unfold Utf.right at h
 simp at h
 omega
theorem bv_u8 (n : Int) (h0 : 0 ≤ n) (h1 : n < 256) : bv (Utf.u8 n) = .int .u8 n := by
 unfold bv Utf.u8
 rw [Bit.toNat_u8 n h0 h1]
def EncPost (c : Int) (w : World) (e : Ending) (w' : World) : Prop :=
 Below w.heap.size w w' ∧ if Utf.right c = true then ∃ A k, e = .returned (.tuple #[.slice A (Utf.enc c).length k, .int .i64 0]) ∧ Rd w' w'.heap.size A ((Utf.enc c).map bv) ∧ (Utf.enc c).length ≤ k ∧ k ≤ maxLen
  else e = .returned (.tuple #[.slice none 0 0, .int .i64 1])
theorem encPost_ok (c : Int) (w : World) (h : Utf.right c = true) (cs : List Value) (hcs : (Utf.enc c).map bv = cs) (n : Nat) (hn : cs.length = n) (hk : n ≤ 4) (t : TypeId) :
  EncPost c w (.returned (.tuple #[.slice (some ⟨w.heap.size, 0, none⟩) n n, .int .i64 0])) (w.alloc (.cells cs.toArray t)) := by
 refine ⟨(Below.refl _ _).alloc (Nat.le_refl _) _, ?_⟩
 rw [if_pos h]
 have hl : (Utf.enc c).length = n := by rw [← hn, ← hcs]; simp
 rw [hl, hcs]
 refine ⟨_, n, rfl, ?_, Nat.le_refl _, by unfold maxLen; omega⟩
 have := rd_new w cs t (0, 0)
 simpa using this
theorem encode_any (c : Int) (w : World) : Calls Tryz.prog 136 #[.int .i64 c] w (EncPost c w) := by
 by_cases hr : Utf.right c = true
 ·
  obtain ⟨h0, h1⟩ := enc_right c hr
  have hfin := encPost_ok c w hr
  have HR := Lib.hid hr
  by_cases k1 : c < 128
  ·
   have he : (Utf.enc c).map bv = [.int .u8 (c)] := by
    unfold Utf.enc; rw [if_pos k1]; simp only [List.map_cons, List.map_nil]; rw [bv_u8 _ (by omega) (by omega)]
   have hs : Utf.size c = 1 := by unfold Utf.size; rw [if_pos k1]
   have HF := Lib.hid (hfin _ he 1 rfl (by omega) 5)
   clear hfin he
   have HS := Lib.hid hs
   clear hs hr
   go_enter Tryz.func136, Tryz.ntmps136
   go_wp2_with (first | (go_at_call 143; refine (right_any _ _).mono ?_; rintro e w' ⟨rfl, rfl⟩; rw [HR.out]) | (go_at_call 144; refine (size_any _ _).mono ?_; rintro e w' ⟨rfl, rfl⟩; rw [HS.out]) | (go_at_call 145; refine (more_any _ _ (by omega) (by omega)).mono ?_; rintro e w' ⟨rfl, rfl⟩))
   go_ret2
   exact HF.out
  by_cases k2 : c < 2048
  ·
   have he : (Utf.enc c).map bv = [.int .u8 (192 + c / 64), .int .u8 (128 + c % 64)] := by
    unfold Utf.enc; rw [if_neg k1, if_pos k2]; simp only [List.map_cons, List.map_nil]; rw [bv_u8 _ (by omega) (by omega), bv_u8 _ (by omega) (by omega)]
   have hs : Utf.size c = 2 := by unfold Utf.size; rw [if_neg k1, if_pos k2]
   have HF := Lib.hid (hfin _ he 2 rfl (by omega) 5)
   clear hfin he
   have HS := Lib.hid hs
   clear hs hr
   have ho : bits .or .u8 192 (c / 64) = 192 + c / 64 := Bit.join8 5 192 _ 32 rfl (by omega) (by omega) (by omega) (by omega) (by omega) (by omega)
   go_enter Tryz.func136, Tryz.ntmps136
   go_wp2_with (first | (go_at_call 143; refine (right_any _ _).mono ?_; rintro e w' ⟨rfl, rfl⟩; rw [HR.out]) | (go_at_call 144; refine (size_any _ _).mono ?_; rintro e w' ⟨rfl, rfl⟩; rw [HS.out]) | (go_at_call 145; refine (more_any _ _ (by omega) (by omega)).mono ?_; rintro e w' ⟨rfl, rfl⟩))
   go_ret2
   exact HF.out
  by_cases k3 : c < 65536
  ·
   have he : (Utf.enc c).map bv = [.int .u8 (224 + c / 4096), .int .u8 (128 + c / 64 % 64), .int .u8 (128 + c % 64)] := by
    unfold Utf.enc; rw [if_neg k1, if_neg k2, if_pos k3]; simp only [List.map_cons, List.map_nil]; rw [bv_u8 _ (by omega) (by omega), bv_u8 _ (by omega) (by omega), bv_u8 _ (by omega) (by omega)]
   have hs : Utf.size c = 3 := by unfold Utf.size; rw [if_neg k1, if_neg k2, if_pos k3]
   have HF := Lib.hid (hfin _ he 3 rfl (by omega) 5)
   clear hfin he
   have HS := Lib.hid hs
   clear hs hr
   have ho : bits .or .u8 224 (c / 4096) = 224 + c / 4096 := Bit.join8 4 224 _ 16 rfl (by omega) (by omega) (by omega) (by omega) (by omega) (by omega)
   go_enter Tryz.func136, Tryz.ntmps136
   go_wp2_with (first | (go_at_call 143; refine (right_any _ _).mono ?_; rintro e w' ⟨rfl, rfl⟩; rw [HR.out]) | (go_at_call 144; refine (size_any _ _).mono ?_; rintro e w' ⟨rfl, rfl⟩; rw [HS.out]) | (go_at_call 145; refine (more_any _ _ (by omega) (by omega)).mono ?_; rintro e w' ⟨rfl, rfl⟩))
   go_ret2
   exact HF.out
  ·
   have he : (Utf.enc c).map bv = [.int .u8 (240 + c / 262144), .int .u8 (128 + c / 4096 % 64), .int .u8 (128 + c / 64 % 64), .int .u8 (128 + c % 64)] := by
    unfold Utf.enc; rw [if_neg k1, if_neg k2, if_neg k3]; simp only [List.map_cons, List.map_nil]; rw [bv_u8 _ (by omega) (by omega), bv_u8 _ (by omega) (by omega), bv_u8 _ (by omega) (by omega), bv_u8 _ (by omega) (by omega)]
   have hs : Utf.size c = 4 := by unfold Utf.size; rw [if_neg k1, if_neg k2, if_neg k3]
   have HF := Lib.hid (hfin _ he 4 rfl (by omega) 5)
   clear hfin he
   have HS := Lib.hid hs
   clear hs hr
   have ho : bits .or .u8 240 (c / 262144) = 240 + c / 262144 := Bit.join8 3 240 _ 8 rfl (by omega) (by omega) (by omega) (by omega) (by omega) (by omega)
   go_enter Tryz.func136, Tryz.ntmps136
   go_wp2_with (first | (go_at_call 143; refine (right_any _ _).mono ?_; rintro e w' ⟨rfl, rfl⟩; rw [HR.out]) | (go_at_call 144; refine (size_any _ _).mono ?_; rintro e w' ⟨rfl, rfl⟩; rw [HS.out]) | (go_at_call 145; refine (more_any _ _ (by omega) (by omega)).mono ?_; rintro e w' ⟨rfl, rfl⟩))
   go_ret2
   exact HF.out
 ·
  have hf : Utf.right c = false := by simpa using hr
  have hfin : EncPost c w (.returned (.tuple #[.slice none 0 0, .int .i64 1])) w := ⟨Below.refl _ _, by rw [if_neg hr]⟩
  have HF := Lib.hid hfin
  have HR := Lib.hid hf
  clear hfin hf hr
  go_enter Tryz.func136, Tryz.ntmps136
  go_wp2_with (go_at_call 143; refine (right_any _ _).mono ?_; rintro e w' ⟨rfl, rfl⟩; rw [HR.out])
  go_ret2
  exact HF.out
end Go.Proofs.YteoledjllpgcbaaGreatDoor.Ut
namespace Go.Proofs.YteoledjllpgcbaaGreatDoor.Ut
set_option maxRecDepth 100000
set_option maxHeartbeats 64000000
set_option linter.unusedVariables false
open Go.RowKit
def letCells : Array Value := #[.int .i64 65, .int .i64 90, .int .i64 97, .int .i64 122, .int .i64 192, .int .i64 214, .int .i64 216, .int .i64 246, .int .i64 248, .int .i64 255, .int .i64 913, .int .i64 929, .int .i64 931, .int .i64 937, .int .i64 945, .int .i64 969, .int .i64 1024, .int .i64 1119]
def shiCells : Array Value := #[.int .i64 65, .int .i64 90, .int .i64 32, .int .i64 192, .int .i64 214, .int .i64 32, .int .i64 216, .int .i64 222, .int .i64 32, .int .i64 913, .int .i64 929, .int .i64 32, .int .i64 931, .int .i64 937, .int .i64 32, .int .i64 1024, .int .i64 1039, .int .i64 80, .int .i64 1040, .int .i64 1071, .int .i64 32]
def UTabs (w : World) : Prop :=
 (∃ t fr, w.heap[1]? = some (.cells letCells t fr)) ∧ (∃ t fr, w.heap[2]? = some (.cells shiCells t fr))
theorem lt_of_heap {w : World} {g : Nat} {o : Obj} (h : w.heap[g]? = some o) : g < w.heap.size := by
 rcases Nat.lt_or_ge g w.heap.size with h1 | h1
 · exact h1
 · rw [Array.getElem?_eq_none h1] at h; cases h
theorem UTabs.below {w w' : World} (h : UTabs w) (hb : Below w.heap.size w w') : UTabs w' := by
 obtain ⟨⟨t, fr, h1⟩, ⟨t', fr', h2⟩⟩ := h
 exact ⟨⟨t, fr, (hb.block _ (lt_of_heap h1)).trans h1⟩, ⟨t', fr', (hb.block _ (lt_of_heap h2)).trans h2⟩⟩
def loL (k : Nat) : Int := (Utf.tabL.getD k (0, 0)).1
def hiL (k : Nat) : Int := (Utf.tabL.getD k (0, 0)).2
theorem index_let_0 : ∀ w : World, (Instr.index 171 (.agg letCells) (.int .i64 0)).run Tryz.prog w = .ok (.agg #[.int .i64 (loL 0), .int .i64 (hiL 0)]) w := fun _ => by kernel_rfl
theorem index_let_1 : ∀ w : World, (Instr.index 171 (.agg letCells) (.int .i64 1)).run Tryz.prog w = .ok (.agg #[.int .i64 (loL 1), .int .i64 (hiL 1)]) w := fun _ => by kernel_rfl
theorem index_let_2 : ∀ w : World, (Instr.index 171 (.agg letCells) (.int .i64 2)).run Tryz.prog w = .ok (.agg #[.int .i64 (loL 2), .int .i64 (hiL 2)]) w := fun _ => by kernel_rfl
theorem index_let_3 : ∀ w : World, (Instr.index 171 (.agg letCells) (.int .i64 3)).run Tryz.prog w = .ok (.agg #[.int .i64 (loL 3), .int .i64 (hiL 3)]) w := fun _ => by kernel_rfl
theorem index_let_4 : ∀ w : World, (Instr.index 171 (.agg letCells) (.int .i64 4)).run Tryz.prog w = .ok (.agg #[.int .i64 (loL 4), .int .i64 (hiL 4)]) w := fun _ => by kernel_rfl
theorem index_let_5 : ∀ w : World, (Instr.index 171 (.agg letCells) (.int .i64 5)).run Tryz.prog w = .ok (.agg #[.int .i64 (loL 5), .int .i64 (hiL 5)]) w := fun _ => by kernel_rfl
theorem index_let_6 : ∀ w : World, (Instr.index 171 (.agg letCells) (.int .i64 6)).run Tryz.prog w = .ok (.agg #[.int .i64 (loL 6), .int .i64 (hiL 6)]) w := fun _ => by kernel_rfl
theorem index_let_7 : ∀ w : World, (Instr.index 171 (.agg letCells) (.int .i64 7)).run Tryz.prog w = .ok (.agg #[.int .i64 (loL 7), .int .i64 (hiL 7)]) w := fun _ => by kernel_rfl
theorem index_let_8 : ∀ w : World, (Instr.index 171 (.agg letCells) (.int .i64 8)).run Tryz.prog w = .ok (.agg #[.int .i64 (loL 8), .int .i64 (hiL 8)]) w := fun _ => by kernel_rfl
theorem index_let (k : Nat) (hk : k < 9) (w : World) : (Instr.index 171 (.agg letCells) (.int .i64 (k : Int))).run Tryz.prog w = .ok (.agg #[.int .i64 (loL k), .int .i64 (hiL k)]) w := by
 match k, hk with
 | 0, _ => exact index_let_0 w
 | 1, _ => exact index_let_1 w
 | 2, _ => exact index_let_2 w
 | 3, _ => exact index_let_3 w
 | 4, _ => exact index_let_4 w
 | 5, _ => exact index_let_5 w
 | 6, _ => exact index_let_6 w
 | 7, _ => exact index_let_7 w
 | 8, _ => exact index_let_8 w
theorem letter_yes (c : Int) (k : Nat) (hk : k < 9) (h1 : loL k ≤ c) (h2 : c ≤ hiL k) : Utf.letter c = true := by
 unfold Utf.letter
 rw [List.any_eq_true]
 have hl : k < Utf.tabL.length := hk
 refine ⟨Utf.tabL[k], List.getElem_mem hl, ?_⟩
 have e : Utf.tabL[k] = Utf.tabL.getD k (0, 0) := by simp [List.getD, hl]
 rw [e]
 unfold loL at h1; unfold hiL at h2
 simp only [Bool.and_eq_true, decide_eq_true_eq]
 exact ⟨h1, h2⟩
theorem letter_no (c : Int) (h : ∀ j, j < 9 → ¬ (loL j ≤ c ∧ c ≤ hiL j)) : Utf.letter c = false := by
 unfold Utf.letter
 rw [List.any_eq_false]
 intro p hp
 obtain ⟨j, hj, rfl⟩ := List.getElem_of_mem hp
 have := h j hj
 have e : Utf.tabL[j] = Utf.tabL.getD j (0, 0) := by simp [List.getD, hj]
 rw [e]
 unfold loL hiL at this
 simpa using this
theorem let_step {f g : Nat → Int} {c : Int} {k : Nat} {lo hi : Int} (h : ∀ j, j < k → ¬ (f j ≤ c ∧ c ≤ g j)) (h1 : f k = lo) (h2 : g k = hi) (hn : ¬ (lo ≤ c ∧ c ≤ hi)) : ∀ j, j < k + 1 → ¬ (f j ≤ c ∧ c ≤ g j) := fun j hj => by
 rcases Nat.lt_or_ge j k with h' | h'
 · exact h j h'
 ·
  obtain rfl : j = k := by omega
  rw [h1, h2]; exact hn
def LetPost (r : Bool) (w : World) (e : Ending) (w' : World) : Prop := e = .returned (.bool r) ∧ Below w.heap.size w w'
def IntPost (r : Int) (w : World) (e : Ending) (w' : World) : Prop := e = .returned (.int .i64 r) ∧ Below w.heap.size w w'
theorem letter_any (c : Int) (w : World) (ht : UTabs w) : Calls Tryz.prog 115 #[.int .i64 c] w (LetPost (Utf.letter c) w) := by
 obtain ⟨⟨tt, fr, hg⟩, _⟩ := ht
 go_enter Tryz.func115, Tryz.ntmps115
 go_wp2_with (refine wpList_load_row rfl 171 (.global 1) rfl 1 rfl tt letCells fr _ hg Tryz.underlying171 rfl (by kernel_rfl) ?_)
 clear hg
 go_loopw [6] (fun i wr => ∃ k : Nat, k ≤ 9 ∧ i = .int .i64 k ∧ Below w.heap.size w wr ∧ ∀ j, j < k → ¬ (loL j ≤ c ∧ c ≤ hiL j)) (fun i _ => 9 - (intOf i).toNat)
 case atStart => exact ⟨0, by omega, rfl, Below.refl _ _, fun j hj => by omega⟩
 case round =>
  obtain ⟨k, hk9, rfl, hb, hno⟩ := hrel
  have HN := Lib.hid hno
  have HB := Lib.hid hb
  have hB : w.heap.size ≤ wr.heap.size := hb.size
  clear hno hb
  by_cases hk : k < 9
  ·
   obtain ⟨lo, hlo⟩ : ∃ x, loL k = x := ⟨_, rfl⟩
   obtain ⟨hi, hhi⟩ : ∃ x, hiL k = x := ⟨_, rfl⟩
   have hidx := index_let k hk
   have hyes := letter_yes c k hk
   rw [hlo, hhi] at hidx hyes
   have HY := Lib.hid hyes
   have HL := Lib.hid hlo
   have HH := Lib.hid hhi
   clear hyes hlo hhi
   by_cases g1 : lo ≤ c
   ·
    by_cases g2 : c ≤ hi
    ·
     go_wp2
     go_ret
     exact ⟨by rw [HY.out g1 g2]; simp, HB.out.alloc hB _⟩
    ·
     go_wp2
     go_roundw
     case rel => exact ⟨k + 1, by omega, by go_num, HB.out.alloc hB _, let_step HN.out HL.out HH.out (by omega)⟩
     case measure => simp [intOf]; omega
   ·
    go_wp2
    go_roundw
    case rel => exact ⟨k + 1, by omega, by go_num, HB.out.alloc hB _, let_step HN.out HL.out HH.out (by omega)⟩
    case measure => simp [intOf]; omega
  ·
   obtain rfl : k = 9 := by omega
   have HF := Lib.hid (letter_no c HN.out)
   go_wp2
   go_ret
   exact ⟨by rw [HF.out]; simp, HB.out⟩
def loS (k : Nat) : Int := (Utf.tabS.getD k (0, 0, 0)).1
def hiS (k : Nat) : Int := (Utf.tabS.getD k (0, 0, 0)).2.1
def adS (k : Nat) : Int := (Utf.tabS.getD k (0, 0, 0)).2.2
theorem index_shi_0 : ∀ w : World, (Instr.index 182 (.agg shiCells) (.int .i64 0)).run Tryz.prog w = .ok (.agg #[.int .i64 (loS 0), .int .i64 (hiS 0), .int .i64 (adS 0)]) w := fun _ => by kernel_rfl
theorem index_shi_1 : ∀ w : World, (Instr.index 182 (.agg shiCells) (.int .i64 1)).run Tryz.prog w = .ok (.agg #[.int .i64 (loS 1), .int .i64 (hiS 1), .int .i64 (adS 1)]) w := fun _ => by kernel_rfl
theorem index_shi_2 : ∀ w : World, (Instr.index 182 (.agg shiCells) (.int .i64 2)).run Tryz.prog w = .ok (.agg #[.int .i64 (loS 2), .int .i64 (hiS 2), .int .i64 (adS 2)]) w := fun _ => by kernel_rfl
theorem index_shi_3 : ∀ w : World, (Instr.index 182 (.agg shiCells) (.int .i64 3)).run Tryz.prog w = .ok (.agg #[.int .i64 (loS 3), .int .i64 (hiS 3), .int .i64 (adS 3)]) w := fun _ => by kernel_rfl
theorem index_shi_4 : ∀ w : World, (Instr.index 182 (.agg shiCells) (.int .i64 4)).run Tryz.prog w = .ok (.agg #[.int .i64 (loS 4), .int .i64 (hiS 4), .int .i64 (adS 4)]) w := fun _ => by kernel_rfl
theorem index_shi_5 : ∀ w : World, (Instr.index 182 (.agg shiCells) (.int .i64 5)).run Tryz.prog w = .ok (.agg #[.int .i64 (loS 5), .int .i64 (hiS 5), .int .i64 (adS 5)]) w := fun _ => by kernel_rfl
theorem index_shi_6 : ∀ w : World, (Instr.index 182 (.agg shiCells) (.int .i64 6)).run Tryz.prog w = .ok (.agg #[.int .i64 (loS 6), .int .i64 (hiS 6), .int .i64 (adS 6)]) w := fun _ => by kernel_rfl
theorem index_shi (k : Nat) (hk : k < 7) (w : World) : (Instr.index 182 (.agg shiCells) (.int .i64 (k : Int))).run Tryz.prog w = .ok (.agg #[.int .i64 (loS k), .int .i64 (hiS k), .int .i64 (adS k)]) w := by
 match k, hk with
 | 0, _ => exact index_shi_0 w
 | 1, _ => exact index_shi_1 w
 | 2, _ => exact index_shi_2 w
 | 3, _ => exact index_shi_3 w
 | 4, _ => exact index_shi_4 w
 | 5, _ => exact index_shi_5 w
 | 6, _ => exact index_shi_6 w
theorem lo_bd (k : Nat) (hk : k < 7) : 65 ≤ loS k := by
 match k, hk with
 | 0, _ => decide
 | 1, _ => decide
 | 2, _ => decide
 | 3, _ => decide
 | 4, _ => decide
 | 5, _ => decide
 | 6, _ => decide
theorem hi_bd (k : Nat) (hk : k < 7) : hiS k ≤ 1071 := by
 match k, hk with
 | 0, _ => decide
 | 1, _ => decide
 | 2, _ => decide
 | 3, _ => decide
 | 4, _ => decide
 | 5, _ => decide
 | 6, _ => decide
theorem ad_bd (k : Nat) (hk : k < 7) : 0 ≤ adS k ∧ adS k ≤ 80 := by
 match k, hk with
 | 0, _ => decide
 | 1, _ => decide
 | 2, _ => decide
 | 3, _ => decide
 | 4, _ => decide
 | 5, _ => decide
 | 6, _ => decide
theorem smallIn_yes (c : Int) : ∀ (T : List (Int × Int × Int)) (k : Nat), k < T.length → (∀ j, j < k → ¬ ((T.getD j (0, 0, 0)).1 ≤ c ∧ c ≤ (T.getD j (0, 0, 0)).2.1)) → (T.getD k (0, 0, 0)).1 ≤ c → c ≤ (T.getD k (0, 0, 0)).2.1 →
  Utf.smallIn T c = c + (T.getD k (0, 0, 0)).2.2
 | [], k, h, _, _, _ => by simp at h
 | p :: T, 0, _, _, h1, h2 => by
  simp only [List.getD_cons_zero] at h1 h2 ⊢
  show (if _ then _ else _) = _
  rw [if_pos ⟨h1, h2⟩]
 | p :: T, k + 1, h, hn, h1, h2 => by
  simp only [List.getD_cons_succ] at h1 h2 ⊢
  show (if _ then _ else _) = _
  have h0 := hn 0 (by omega)
  simp only [List.getD_cons_zero] at h0
  rw [if_neg h0]
  exact smallIn_yes c T k (by simpa using h) (fun j hj => by have := hn (j + 1) (by omega); simpa only [List.getD_cons_succ] using this) h1 h2
theorem smallIn_no (c : Int) : ∀ (T : List (Int × Int × Int)), (∀ j, j < T.length → ¬ ((T.getD j (0, 0, 0)).1 ≤ c ∧ c ≤ (T.getD j (0, 0, 0)).2.1)) → Utf.smallIn T c = c
 | [], _ => rfl
 | p :: T, h => by
  show (if _ then _ else _) = _
  have h0 := h 0 (by simp)
  simp only [List.getD_cons_zero] at h0
  rw [if_neg h0]
  exact smallIn_no c T (fun j hj => by have := h (j + 1) (by simpa using hj); simpa only [List.getD_cons_succ] using this)
theorem small_yes (c : Int) (k : Nat) (hk : k < 7) (hn : ∀ j, j < k → ¬ (loS j ≤ c ∧ c ≤ hiS j)) (h1 : loS k ≤ c) (h2 : c ≤ hiS k) : Utf.small c = c + adS k := smallIn_yes c Utf.tabS k hk hn h1 h2
theorem small_no (c : Int) (h : ∀ j, j < 7 → ¬ (loS j ≤ c ∧ c ≤ hiS j)) : Utf.small c = c := smallIn_no c Utf.tabS h
theorem small_any (c : Int) (w : World) (ht : UTabs w) : Calls Tryz.prog 137 #[.int .i64 c] w (IntPost (Utf.small c) w) := by
 obtain ⟨_, ⟨tt, fr, hg⟩⟩ := ht
 go_enter Tryz.func137, Tryz.ntmps137
 go_wp2_with (refine wpList_load_row rfl 182 (.global 2) rfl 2 rfl tt shiCells fr _ hg Tryz.underlying182 rfl (by kernel_rfl) ?_)
 clear hg
 go_loopw [6] (fun i wr => ∃ k : Nat, k ≤ 7 ∧ i = .int .i64 k ∧ Below w.heap.size w wr ∧ ∀ j, j < k → ¬ (loS j ≤ c ∧ c ≤ hiS j)) (fun i _ => 7 - (intOf i).toNat)
 case atStart => exact ⟨0, by omega, rfl, Below.refl _ _, fun j hj => by omega⟩
 case round =>
  obtain ⟨k, hk9, rfl, hb, hno⟩ := hrel
  have HN := Lib.hid hno
  have HB := Lib.hid hb
  have hB : w.heap.size ≤ wr.heap.size := hb.size
  clear hno hb
  by_cases hk : k < 7
  ·
   obtain ⟨lo, hlo⟩ : ∃ x, loS k = x := ⟨_, rfl⟩
   obtain ⟨hi, hhi⟩ : ∃ x, hiS k = x := ⟨_, rfl⟩
   obtain ⟨ad, had⟩ : ∃ x, adS k = x := ⟨_, rfl⟩
   have hidx := index_shi k hk
   have hyes := small_yes c k hk HN.out
   have hadb := ad_bd k hk
   have hhib := hi_bd k hk
   have hlob := lo_bd k hk
   rw [hlo, hhi, had] at hidx hyes
   rw [hlo] at hlob
   rw [hhi] at hhib
   rw [had] at hadb
   obtain ⟨ad0, ad1⟩ := hadb
   have HY := Lib.hid hyes
   have HL := Lib.hid hlo
   have HH := Lib.hid hhi
   clear hyes hlo hhi
   by_cases g1 : lo ≤ c
   ·
    by_cases g2 : c ≤ hi
    ·
     go_wp2
     go_ret
     exact ⟨by rw [HY.out g1 g2]; simp, HB.out.alloc hB _⟩
    ·
     go_wp2
     go_roundw
     case rel => exact ⟨k + 1, by omega, by go_num, HB.out.alloc hB _, let_step HN.out HL.out HH.out (by omega)⟩
     case measure => simp [intOf]; omega
   ·
    go_wp2
    go_roundw
    case rel => exact ⟨k + 1, by omega, by go_num, HB.out.alloc hB _, let_step HN.out HL.out HH.out (by omega)⟩
    case measure => simp [intOf]; omega
  ·
   obtain rfl : k = 7 := by omega
   have HF := Lib.hid (small_no c HN.out)
   go_wp2
   go_ret
   exact ⟨by rw [HF.out]; simp, HB.out⟩
end Go.Proofs.YteoledjllpgcbaaGreatDoor.Ut
namespace Go.Proofs.YteoledjllpgcbaaGreatDoor.Ut
set_option maxRecDepth 100000
set_option maxHeartbeats 64000000
set_option linter.unusedVariables false
open Go.RowKit
def inB (c f t : Int) : Bool := decide (f ≤ c) && decide (c ≤ t)
theorem in_any (c f t : Int) (w : World) : Calls Tryz.prog 84 #[.int .i64 c, .int .i64 f, .int .i64 t] w fun e w' => e = .returned (.bool (inB c f t)) ∧ w = w' := by
 obtain ⟨r, hr⟩ : ∃ r, inB c f t = r := ⟨_, rfl⟩
 rw [hr]
 unfold inB at hr
 by_cases h1 : f ≤ c
 ·
  by_cases h2 : c ≤ t
  ·
   obtain rfl : true = r := by rw [← hr]; simp [h1, h2]
   clear hr
   go_enter Tryz.func84, Tryz.ntmps84
   go_wp2
   go_ret
   exact ⟨rfl, rfl⟩
  ·
   obtain rfl : false = r := by rw [← hr]; simp [h2]
   clear hr
   go_enter Tryz.func84, Tryz.ntmps84
   go_wp2
   go_ret
   exact ⟨rfl, rfl⟩
 ·
  obtain rfl : false = r := by rw [← hr]; simp [h1]
  clear hr
  go_enter Tryz.func84, Tryz.ntmps84
  go_wp2
  go_ret
  exact ⟨rfl, rfl⟩
theorem rright_any (c : Int) (w : World) : Calls Tryz.prog 80 #[.int .i64 c] w fun e w' => e = .returned (.bool (Utf.right c)) ∧ w = w' := by
 obtain ⟨r, hr⟩ : ∃ r, Utf.right c = r := ⟨_, rfl⟩
 rw [hr]
 unfold Utf.right at hr
 by_cases h1 : 0 ≤ c
 ·
  by_cases h2 : c < 55296
  ·
   obtain rfl : true = r := by rw [← hr]; simp [h1, h2]; omega
   clear hr
   go_enter Tryz.func80, Tryz.ntmps80
   go_wp2
   go_ret
   exact ⟨rfl, rfl⟩
  ·
   by_cases h3 : 57343 < c
   ·
    by_cases h4 : c < 1114112
    ·
     obtain rfl : true = r := by rw [← hr]; simp [h1, h3]; omega
     clear hr
     go_enter Tryz.func80, Tryz.ntmps80
     go_wp2
     go_ret
     exact ⟨rfl, rfl⟩
    ·
     obtain rfl : false = r := by rw [← hr]; simp [h1]; omega
     clear hr
     go_enter Tryz.func80, Tryz.ntmps80
     go_wp2
     go_ret
     exact ⟨rfl, rfl⟩
   ·
    obtain rfl : false = r := by rw [← hr]; simp [h2, h3]
    clear hr
    go_enter Tryz.func80, Tryz.ntmps80
    go_wp2
    go_ret
    exact ⟨rfl, rfl⟩
 ·
  obtain rfl : false = r := by rw [← hr]; simp [h1]
  have h2 : c < 57343 := by omega
  clear hr
  go_enter Tryz.func80, Tryz.ntmps80
  go_wp2
  go_ret
  exact ⟨rfl, rfl⟩
theorem letter_eq (c : Int) : Utf.letter c = (inB c 65 90 || inB c 97 122 || inB c 192 214 || inB c 216 246 || inB c 248 255 || inB c 913 929 || inB c 931 937 || inB c 945 969 || inB c 1024 1119) := by
 simp [Utf.letter, Utf.tabL, inB, Bool.or_assoc]
theorem rletter_any (c : Int) (w : World) : Calls Tryz.prog 83 #[.int .i64 c] w fun e w' => e = .returned (.bool (Utf.letter c)) ∧ w = w' := by
 obtain ⟨r, hr⟩ : ∃ r, Utf.letter c = r := ⟨_, rfl⟩
 rw [hr]
 rw [letter_eq] at hr
 by_cases t0 : inB c 65 90 = true
 ·
  obtain rfl : true = r := by rw [← hr]; simp [t0]
  clear hr
  have T := Lib.hid t0
  clear t0
  go_enter Tryz.func83, Tryz.ntmps83
  go_wp2_with (go_at_call 84; refine (in_any _ _ _ _).mono ?_; rintro e w' ⟨rfl, rfl⟩; first | rw [T.out])
  go_ret
  exact ⟨rfl, rfl⟩
 have F0 := Lib.hid (by simpa using t0 : inB c 65 90 = false)
 clear t0
 by_cases t1 : inB c 97 122 = true
 ·
  obtain rfl : true = r := by rw [← hr]; simp [t1]
  clear hr
  have T := Lib.hid t1
  clear t1
  go_enter Tryz.func83, Tryz.ntmps83
  go_wp2_with (go_at_call 84; refine (in_any _ _ _ _).mono ?_; rintro e w' ⟨rfl, rfl⟩; first | rw [F0.out] | rw [T.out])
  go_ret
  exact ⟨rfl, rfl⟩
 have F1 := Lib.hid (by simpa using t1 : inB c 97 122 = false)
 clear t1
 by_cases t2 : inB c 192 214 = true
 ·
  obtain rfl : true = r := by rw [← hr]; simp [t2]
  clear hr
  have T := Lib.hid t2
  clear t2
  go_enter Tryz.func83, Tryz.ntmps83
  go_wp2_with (go_at_call 84; refine (in_any _ _ _ _).mono ?_; rintro e w' ⟨rfl, rfl⟩; first | rw [F0.out] | rw [F1.out] | rw [T.out])
  go_ret
  exact ⟨rfl, rfl⟩
 have F2 := Lib.hid (by simpa using t2 : inB c 192 214 = false)
 clear t2
 by_cases t3 : inB c 216 246 = true
 ·
  obtain rfl : true = r := by rw [← hr]; simp [t3]
  clear hr
  have T := Lib.hid t3
  clear t3
  go_enter Tryz.func83, Tryz.ntmps83
  go_wp2_with (go_at_call 84; refine (in_any _ _ _ _).mono ?_; rintro e w' ⟨rfl, rfl⟩; first | rw [F0.out] | rw [F1.out] | rw [F2.out] | rw [T.out])
  go_ret
  exact ⟨rfl, rfl⟩
 have F3 := Lib.hid (by simpa using t3 : inB c 216 246 = false)
 clear t3
 by_cases t4 : inB c 248 255 = true
 ·
  obtain rfl : true = r := by rw [← hr]; simp [t4]
  clear hr
  have T := Lib.hid t4
  clear t4
  go_enter Tryz.func83, Tryz.ntmps83
  go_wp2_with (go_at_call 84; refine (in_any _ _ _ _).mono ?_; rintro e w' ⟨rfl, rfl⟩; first | rw [F0.out] | rw [F1.out] | rw [F2.out] | rw [F3.out] | rw [T.out])
  go_ret
  exact ⟨rfl, rfl⟩
 have F4 := Lib.hid (by simpa using t4 : inB c 248 255 = false)
 clear t4
 by_cases t5 : inB c 913 929 = true
 ·
  obtain rfl : true = r := by rw [← hr]; simp [t5]
  clear hr
  have T := Lib.hid t5
  clear t5
  go_enter Tryz.func83, Tryz.ntmps83
  go_wp2_with (go_at_call 84; refine (in_any _ _ _ _).mono ?_; rintro e w' ⟨rfl, rfl⟩; first | rw [F0.out] | rw [F1.out] | rw [F2.out] | rw [F3.out] | rw [F4.out] | rw [T.out])
  go_ret
  exact ⟨rfl, rfl⟩
 have F5 := Lib.hid (by simpa using t5 : inB c 913 929 = false)
 clear t5
 by_cases t6 : inB c 931 937 = true
 ·
  obtain rfl : true = r := by rw [← hr]; simp [t6]
  clear hr
  have T := Lib.hid t6
  clear t6
  go_enter Tryz.func83, Tryz.ntmps83
  go_wp2_with (go_at_call 84; refine (in_any _ _ _ _).mono ?_; rintro e w' ⟨rfl, rfl⟩; first | rw [F0.out] | rw [F1.out] | rw [F2.out] | rw [F3.out] | rw [F4.out] | rw [F5.out] | rw [T.out])
  go_ret
  exact ⟨rfl, rfl⟩
 have F6 := Lib.hid (by simpa using t6 : inB c 931 937 = false)
 clear t6
 by_cases t7 : inB c 945 969 = true
 ·
  obtain rfl : true = r := by rw [← hr]; simp [t7]
  clear hr
  have T := Lib.hid t7
  clear t7
  go_enter Tryz.func83, Tryz.ntmps83
  go_wp2_with (go_at_call 84; refine (in_any _ _ _ _).mono ?_; rintro e w' ⟨rfl, rfl⟩; first | rw [F0.out] | rw [F1.out] | rw [F2.out] | rw [F3.out] | rw [F4.out] | rw [F5.out] | rw [F6.out] | rw [T.out])
  go_ret
  exact ⟨rfl, rfl⟩
 have F7 := Lib.hid (by simpa using t7 : inB c 945 969 = false)
 clear t7
 by_cases t8 : inB c 1024 1119 = true
 ·
  obtain rfl : true = r := by rw [← hr]; simp [t8]
  clear hr
  have T := Lib.hid t8
  clear t8
  go_enter Tryz.func83, Tryz.ntmps83
  go_wp2_with (go_at_call 84; refine (in_any _ _ _ _).mono ?_; rintro e w' ⟨rfl, rfl⟩; first | rw [F0.out] | rw [F1.out] | rw [F2.out] | rw [F3.out] | rw [F4.out] | rw [F5.out] | rw [F6.out] | rw [F7.out] | rw [T.out])
  go_ret
  exact ⟨rfl, rfl⟩
 have F8 := Lib.hid (by simpa using t8 : inB c 1024 1119 = false)
 clear t8
 obtain rfl : false = r := by rw [← hr]; simp [F0.out, F1.out, F2.out, F3.out, F4.out, F5.out, F6.out, F7.out, F8.out]
 clear hr
 go_enter Tryz.func83, Tryz.ntmps83
 go_wp2_with (go_at_call 84; refine (in_any _ _ _ _).mono ?_; rintro e w' ⟨rfl, rfl⟩; first | rw [F0.out] | rw [F1.out] | rw [F2.out] | rw [F3.out] | rw [F4.out] | rw [F5.out] | rw [F6.out] | rw [F7.out] | rw [F8.out])
 go_ret
 exact ⟨rfl, rfl⟩
theorem small_first (c : Int) (h : inB c 1024 1039 = true) : Utf.small c = c + 80 ∧ 0 ≤ c ∧ c ≤ 1114111 := by
 simp [inB] at h
 refine ⟨?_, by omega, by omega⟩
 simp only [Utf.small, Utf.tabS, Utf.smallIn]
 repeat (first | rw [if_neg (by omega)] | rw [if_pos (by omega)])
theorem small_no3 (c : Int) (h : inB c 1024 1039 = false) (h0 : inB c 65 90 = false) (h1 : inB c 192 214 = false) (h2 : inB c 216 222 = false) (h3 : inB c 913 929 = false) (h4 : inB c 931 937 = false) (h5 : inB c 1040 1071 = false) : Utf.small c = c := by
 simp [inB] at h h0 h1 h2 h3 h4 h5
 simp only [Utf.small, Utf.tabS, Utf.smallIn]
 repeat (first | rw [if_neg (by omega)])
theorem small_in0 (c : Int) (h : inB c 65 90 = true) : Utf.small c = c + 32 ∧ 0 ≤ c ∧ c ≤ 1114111 := by
 simp [inB] at h
 refine ⟨?_, by omega, by omega⟩
 simp only [Utf.small, Utf.tabS, Utf.smallIn]
 repeat (first | rw [if_pos (by omega)] | rw [if_neg (by omega)])
theorem small_in1 (c : Int) (h : inB c 192 214 = true) : Utf.small c = c + 32 ∧ 0 ≤ c ∧ c ≤ 1114111 := by
 simp [inB] at h
 refine ⟨?_, by omega, by omega⟩
 simp only [Utf.small, Utf.tabS, Utf.smallIn]
 repeat (first | rw [if_pos (by omega)] | rw [if_neg (by omega)])
theorem small_in2 (c : Int) (h : inB c 216 222 = true) : Utf.small c = c + 32 ∧ 0 ≤ c ∧ c ≤ 1114111 := by
 simp [inB] at h
 refine ⟨?_, by omega, by omega⟩
 simp only [Utf.small, Utf.tabS, Utf.smallIn]
 repeat (first | rw [if_pos (by omega)] | rw [if_neg (by omega)])
theorem small_in3 (c : Int) (h : inB c 913 929 = true) : Utf.small c = c + 32 ∧ 0 ≤ c ∧ c ≤ 1114111 := by
 simp [inB] at h
 refine ⟨?_, by omega, by omega⟩
 simp only [Utf.small, Utf.tabS, Utf.smallIn]
 repeat (first | rw [if_pos (by omega)] | rw [if_neg (by omega)])
theorem small_in4 (c : Int) (h : inB c 931 937 = true) : Utf.small c = c + 32 ∧ 0 ≤ c ∧ c ≤ 1114111 := by
 simp [inB] at h
 refine ⟨?_, by omega, by omega⟩
 simp only [Utf.small, Utf.tabS, Utf.smallIn]
 repeat (first | rw [if_pos (by omega)] | rw [if_neg (by omega)])
theorem small_in5 (c : Int) (h : inB c 1040 1071 = true) : Utf.small c = c + 32 ∧ 0 ≤ c ∧ c ≤ 1114111 := by
 simp [inB] at h
 refine ⟨?_, by omega, by omega⟩
 simp only [Utf.small, Utf.tabS, Utf.smallIn]
 repeat (first | rw [if_pos (by omega)] | rw [if_neg (by omega)])
theorem rsmall_any (c : Int) (w : World) : Calls Tryz.prog 37 #[.int .i64 c] w fun e w' => e = .returned (.int .i64 (Utf.small c)) ∧ w = w' := by
 by_cases t : inB c 1024 1039 = true
 ·
  obtain ⟨e1, c0, c1⟩ := small_first c t
  rw [e1]
  have T := Lib.hid t
  clear t e1
  go_enter Tryz.func37, Tryz.ntmps37
  go_wp2_with (go_at_call 84; refine (in_any _ _ _ _).mono ?_; rintro e w' ⟨rfl, rfl⟩; first | rw [T.out])
  go_ret
  exact ⟨rfl, rfl⟩
 have F := Lib.hid (by simpa using t : inB c 1024 1039 = false)
 clear t
 by_cases t0 : inB c 65 90 = true
 ·
  obtain ⟨e1, c0, c1⟩ := small_in0 c t0
  rw [e1]
  have T := Lib.hid t0
  clear t0 e1
  go_enter Tryz.func37, Tryz.ntmps37
  go_wp2_with (go_at_call 84; refine (in_any _ _ _ _).mono ?_; rintro e w' ⟨rfl, rfl⟩; first | rw [F.out] | rw [T.out])
  go_ret
  exact ⟨rfl, rfl⟩
 have F0 := Lib.hid (by simpa using t0 : inB c 65 90 = false)
 clear t0
 by_cases t1 : inB c 192 214 = true
 ·
  obtain ⟨e1, c0, c1⟩ := small_in1 c t1
  rw [e1]
  have T := Lib.hid t1
  clear t1 e1
  go_enter Tryz.func37, Tryz.ntmps37
  go_wp2_with (go_at_call 84; refine (in_any _ _ _ _).mono ?_; rintro e w' ⟨rfl, rfl⟩; first | rw [F.out] | rw [F0.out] | rw [T.out])
  go_ret
  exact ⟨rfl, rfl⟩
 have F1 := Lib.hid (by simpa using t1 : inB c 192 214 = false)
 clear t1
 by_cases t2 : inB c 216 222 = true
 ·
  obtain ⟨e1, c0, c1⟩ := small_in2 c t2
  rw [e1]
  have T := Lib.hid t2
  clear t2 e1
  go_enter Tryz.func37, Tryz.ntmps37
  go_wp2_with (go_at_call 84; refine (in_any _ _ _ _).mono ?_; rintro e w' ⟨rfl, rfl⟩; first | rw [F.out] | rw [F0.out] | rw [F1.out] | rw [T.out])
  go_ret
  exact ⟨rfl, rfl⟩
 have F2 := Lib.hid (by simpa using t2 : inB c 216 222 = false)
 clear t2
 by_cases t3 : inB c 913 929 = true
 ·
  obtain ⟨e1, c0, c1⟩ := small_in3 c t3
  rw [e1]
  have T := Lib.hid t3
  clear t3 e1
  go_enter Tryz.func37, Tryz.ntmps37
  go_wp2_with (go_at_call 84; refine (in_any _ _ _ _).mono ?_; rintro e w' ⟨rfl, rfl⟩; first | rw [F.out] | rw [F0.out] | rw [F1.out] | rw [F2.out] | rw [T.out])
  go_ret
  exact ⟨rfl, rfl⟩
 have F3 := Lib.hid (by simpa using t3 : inB c 913 929 = false)
 clear t3
 by_cases t4 : inB c 931 937 = true
 ·
  obtain ⟨e1, c0, c1⟩ := small_in4 c t4
  rw [e1]
  have T := Lib.hid t4
  clear t4 e1
  go_enter Tryz.func37, Tryz.ntmps37
  go_wp2_with (go_at_call 84; refine (in_any _ _ _ _).mono ?_; rintro e w' ⟨rfl, rfl⟩; first | rw [F.out] | rw [F0.out] | rw [F1.out] | rw [F2.out] | rw [F3.out] | rw [T.out])
  go_ret
  exact ⟨rfl, rfl⟩
 have F4 := Lib.hid (by simpa using t4 : inB c 931 937 = false)
 clear t4
 by_cases t5 : inB c 1040 1071 = true
 ·
  obtain ⟨e1, c0, c1⟩ := small_in5 c t5
  rw [e1]
  have T := Lib.hid t5
  clear t5 e1
  go_enter Tryz.func37, Tryz.ntmps37
  go_wp2_with (go_at_call 84; refine (in_any _ _ _ _).mono ?_; rintro e w' ⟨rfl, rfl⟩; first | rw [F.out] | rw [F0.out] | rw [F1.out] | rw [F2.out] | rw [F3.out] | rw [F4.out] | rw [T.out])
  go_ret
  exact ⟨rfl, rfl⟩
 have F5 := Lib.hid (by simpa using t5 : inB c 1040 1071 = false)
 clear t5
 rw [small_no3 c F.out F0.out F1.out F2.out F3.out F4.out F5.out]
 go_enter Tryz.func37, Tryz.ntmps37
 go_wp2_with (go_at_call 84; refine (in_any _ _ _ _).mono ?_; rintro e w' ⟨rfl, rfl⟩; first | rw [F.out] | rw [F0.out] | rw [F1.out] | rw [F2.out] | rw [F3.out] | rw [F4.out] | rw [F5.out])
 go_ret
 exact ⟨rfl, rfl⟩
def REncPost (c : Int) (w : World) (e : Ending) (w' : World) : Prop :=
 ∃ A k, e = .returned (.slice A (Utf.enc c).length k) ∧ Rd w' w'.heap.size A ((Utf.enc c).map bv) ∧ (Utf.enc c).length ≤ k ∧ k ≤ maxLen ∧ Below w.heap.size w w'
theorem rencPost_ok (c : Int) (w : World) (cs : List Value) (hcs : (Utf.enc c).map bv = cs) (n : Nat) (hn : cs.length = n) (hk : n ≤ 4) (t : TypeId) :
  REncPost c w (.returned (.slice (some ⟨w.heap.size, 0, none⟩) n n)) (w.alloc (.cells cs.toArray t)) := by
 have hl : (Utf.enc c).length = n := by rw [← hn, ← hcs]; simp
 unfold REncPost
 rw [hl, hcs]
 refine ⟨_, n, rfl, ?_, Nat.le_refl _, by unfold maxLen; omega, (Below.refl _ _).alloc (Nat.le_refl _) _⟩
 have := rd_new w cs t (0, 0)
 simpa using this
theorem rencode_any (c : Int) (w : World) (hr : Utf.right c = true) : Calls Tryz.prog 81 #[.int .i64 c] w (REncPost c w) := by
 obtain ⟨h0, h1⟩ := enc_right c hr
 have hfin := rencPost_ok c w
 clear hr
 by_cases k1 : c < 128
 ·
  have he : (Utf.enc c).map bv = [.int .u8 (c)] := by
   unfold Utf.enc; rw [if_pos k1]; simp only [List.map_cons, List.map_nil]; rw [bv_u8 _ (by omega) (by omega)]
  have HF := Lib.hid (hfin _ he 1 rfl (by omega) 5)
  clear hfin he
  go_enter Tryz.func81, Tryz.ntmps81
  go_wp2
  go_ret
  exact HF.out
 by_cases k2 : c < 2048
 ·
  have he : (Utf.enc c).map bv = [.int .u8 (192 + c / 64), .int .u8 (128 + c % 64)] := by
   unfold Utf.enc; rw [if_neg k1, if_pos k2]; simp only [List.map_cons, List.map_nil]; rw [bv_u8 _ (by omega) (by omega), bv_u8 _ (by omega) (by omega)]
  have HF := Lib.hid (hfin _ he 2 rfl (by omega) 5)
  clear hfin he
  go_enter Tryz.func81, Tryz.ntmps81
  go_wp2
  go_ret
  exact HF.out
 by_cases k3 : c < 65536
 ·
  have he : (Utf.enc c).map bv = [.int .u8 (224 + c / 4096), .int .u8 (128 + c / 64 % 64), .int .u8 (128 + c % 64)] := by
   unfold Utf.enc; rw [if_neg k1, if_neg k2, if_pos k3]; simp only [List.map_cons, List.map_nil]; rw [bv_u8 _ (by omega) (by omega), bv_u8 _ (by omega) (by omega), bv_u8 _ (by omega) (by omega)]
  have HF := Lib.hid (hfin _ he 3 rfl (by omega) 5)
  clear hfin he
  go_enter Tryz.func81, Tryz.ntmps81
  go_wp2
  go_ret
  exact HF.out
 ·
  have he : (Utf.enc c).map bv = [.int .u8 (240 + c / 262144), .int .u8 (128 + c / 4096 % 64), .int .u8 (128 + c / 64 % 64), .int .u8 (128 + c % 64)] := by
   unfold Utf.enc; rw [if_neg k1, if_neg k2, if_neg k3]; simp only [List.map_cons, List.map_nil]; rw [bv_u8 _ (by omega) (by omega), bv_u8 _ (by omega) (by omega), bv_u8 _ (by omega) (by omega), bv_u8 _ (by omega) (by omega)]
  have HF := Lib.hid (hfin _ he 4 rfl (by omega) 5)
  clear hfin he
  go_enter Tryz.func81, Tryz.ntmps81
  go_wp2
  go_ret
  exact HF.out
end Go.Proofs.YteoledjllpgcbaaGreatDoor.Ut
