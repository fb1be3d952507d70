/- The walks of the reference's functions for utf (all but begins and Decode). -/
import Derived.Test.YtabndfboohgioaaDoorUtfTab
namespace Go.Proofs.YtabndfboohgioaaDoor
set_option linter.unusedVariables false
open Go.RowKit

def inB (c f t : Int) : Bool := decide (f ≤ c) && decide (c ≤ t)
theorem in_any (c f t : Int) (w : World) : Calls Tryd.prog 25 #[.int .i64 c, .int .i64 f, .int .i64 t] w fun e w' => e = .returned (.bool (inB c f t)) ∧ w = w' := by
  obtain ⟨r, hr⟩ : ∃ r, inB c f t = r := ⟨_, rfl⟩
  rw [hr]
  unfold inB at hr
  by_cases h1 : f ≤ c
  · by_cases h2 : c ≤ t
    · obtain rfl : true = r := by rw [← hr]; simp [h1, h2]
      clear hr
      go_enter Tryd.func25, Tryd.ntmps25
      go_wp2
      go_ret
      exact ⟨rfl, rfl⟩
    · obtain rfl : false = r := by rw [← hr]; simp [h2]
      clear hr
      go_enter Tryd.func25, Tryd.ntmps25
      go_wp2
      go_ret
      exact ⟨rfl, rfl⟩
  · obtain rfl : false = r := by rw [← hr]; simp [h1]
    clear hr
    go_enter Tryd.func25, Tryd.ntmps25
    go_wp2
    go_ret
    exact ⟨rfl, rfl⟩

theorem rright_any (c : Int) (w : World) : Calls Tryd.prog 20 #[.int .i64 c] w fun e w' => e = .returned (.bool (Utf.right c)) ∧ w = w' := by
  obtain ⟨r, hr⟩ : ∃ r, Utf.right c = r := ⟨_, rfl⟩
  rw [hr]
  unfold Utf.right at hr
  by_cases h1 : 0 ≤ c
  · by_cases h2 : c < 55296
    · obtain rfl : true = r := by rw [← hr]; simp [h1, h2]; omega
      clear hr
      go_enter Tryd.func20, Tryd.ntmps20
      go_wp2
      go_ret
      exact ⟨rfl, rfl⟩
    · by_cases h3 : 57343 < c
      · by_cases h4 : c < 1114112
        · obtain rfl : true = r := by rw [← hr]; simp [h1, h3]; omega
          clear hr
          go_enter Tryd.func20, Tryd.ntmps20
          go_wp2
          go_ret
          exact ⟨rfl, rfl⟩
        · obtain rfl : false = r := by rw [← hr]; simp [h1]; omega
          clear hr
          go_enter Tryd.func20, Tryd.ntmps20
          go_wp2
          go_ret
          exact ⟨rfl, rfl⟩
      · obtain rfl : false = r := by rw [← hr]; simp [h2, h3]
        clear hr
        go_enter Tryd.func20, Tryd.ntmps20
        go_wp2
        go_ret
        exact ⟨rfl, rfl⟩
  · obtain rfl : false = r := by rw [← hr]; simp [h1]
    have h2 : c < 57343 := by omega
    clear hr
    go_enter Tryd.func20, Tryd.ntmps20
    go_wp2
    go_ret
    exact ⟨rfl, rfl⟩

theorem letter_eq (c : Int) : Utf.letter c = (inB c 65 90 || inB c 97 122 || inB c 192 214 || inB c 216 246 || inB c 248 255 || inB c 913 929 || inB c 931 937 || inB c 945 969 || inB c 1024 1119) := by
  simp [Utf.letter, Utf.tabL, inB, Bool.or_assoc]
set_option maxHeartbeats 4000000 in
theorem rletter_any (c : Int) (w : World) : Calls Tryd.prog 14 #[.int .i64 c] w fun e w' => e = .returned (.bool (Utf.letter c)) ∧ w = w' := by
  obtain ⟨r, hr⟩ : ∃ r, Utf.letter c = r := ⟨_, rfl⟩
  rw [hr]
  rw [letter_eq] at hr
  by_cases t0 : inB c 65 90 = true
  · obtain rfl : true = r := by rw [← hr]; simp [t0]
    clear hr
    have T := Lib.hid t0
    clear t0
    go_enter Tryd.func14, Tryd.ntmps14
    go_wp2_with (go_at_call 25; refine (in_any _ _ _ _).mono ?_; rintro e w' ⟨rfl, rfl⟩; first | rw [T.out])
    go_ret
    exact ⟨rfl, rfl⟩
  have F0 := Lib.hid (by simpa using t0 : inB c 65 90 = false)
  clear t0
  by_cases t1 : inB c 97 122 = true
  · obtain rfl : true = r := by rw [← hr]; simp [t1]
    clear hr
    have T := Lib.hid t1
    clear t1
    go_enter Tryd.func14, Tryd.ntmps14
    go_wp2_with (go_at_call 25; refine (in_any _ _ _ _).mono ?_; rintro e w' ⟨rfl, rfl⟩; first | rw [F0.out] | rw [T.out])
    go_ret
    exact ⟨rfl, rfl⟩
  have F1 := Lib.hid (by simpa using t1 : inB c 97 122 = false)
  clear t1
  by_cases t2 : inB c 192 214 = true
  · obtain rfl : true = r := by rw [← hr]; simp [t2]
    clear hr
    have T := Lib.hid t2
    clear t2
    go_enter Tryd.func14, Tryd.ntmps14
    go_wp2_with (go_at_call 25; refine (in_any _ _ _ _).mono ?_; rintro e w' ⟨rfl, rfl⟩; first | rw [F0.out] | rw [F1.out] | rw [T.out])
    go_ret
    exact ⟨rfl, rfl⟩
  have F2 := Lib.hid (by simpa using t2 : inB c 192 214 = false)
  clear t2
  by_cases t3 : inB c 216 246 = true
  · obtain rfl : true = r := by rw [← hr]; simp [t3]
    clear hr
    have T := Lib.hid t3
    clear t3
    go_enter Tryd.func14, Tryd.ntmps14
    go_wp2_with (go_at_call 25; refine (in_any _ _ _ _).mono ?_; rintro e w' ⟨rfl, rfl⟩; first | rw [F0.out] | rw [F1.out] | rw [F2.out] | rw [T.out])
    go_ret
    exact ⟨rfl, rfl⟩
  have F3 := Lib.hid (by simpa using t3 : inB c 216 246 = false)
  clear t3
  by_cases t4 : inB c 248 255 = true
  · obtain rfl : true = r := by rw [← hr]; simp [t4]
    clear hr
    have T := Lib.hid t4
    clear t4
    go_enter Tryd.func14, Tryd.ntmps14
    go_wp2_with (go_at_call 25; refine (in_any _ _ _ _).mono ?_; rintro e w' ⟨rfl, rfl⟩; first | rw [F0.out] | rw [F1.out] | rw [F2.out] | rw [F3.out] | rw [T.out])
    go_ret
    exact ⟨rfl, rfl⟩
  have F4 := Lib.hid (by simpa using t4 : inB c 248 255 = false)
  clear t4
  by_cases t5 : inB c 913 929 = true
  · obtain rfl : true = r := by rw [← hr]; simp [t5]
    clear hr
    have T := Lib.hid t5
    clear t5
    go_enter Tryd.func14, Tryd.ntmps14
    go_wp2_with (go_at_call 25; refine (in_any _ _ _ _).mono ?_; rintro e w' ⟨rfl, rfl⟩; first | rw [F0.out] | rw [F1.out] | rw [F2.out] | rw [F3.out] | rw [F4.out] | rw [T.out])
    go_ret
    exact ⟨rfl, rfl⟩
  have F5 := Lib.hid (by simpa using t5 : inB c 913 929 = false)
  clear t5
  by_cases t6 : inB c 931 937 = true
  · obtain rfl : true = r := by rw [← hr]; simp [t6]
    clear hr
    have T := Lib.hid t6
    clear t6
    go_enter Tryd.func14, Tryd.ntmps14
    go_wp2_with (go_at_call 25; refine (in_any _ _ _ _).mono ?_; rintro e w' ⟨rfl, rfl⟩; first | rw [F0.out] | rw [F1.out] | rw [F2.out] | rw [F3.out] | rw [F4.out] | rw [F5.out] | rw [T.out])
    go_ret
    exact ⟨rfl, rfl⟩
  have F6 := Lib.hid (by simpa using t6 : inB c 931 937 = false)
  clear t6
  by_cases t7 : inB c 945 969 = true
  · obtain rfl : true = r := by rw [← hr]; simp [t7]
    clear hr
    have T := Lib.hid t7
    clear t7
    go_enter Tryd.func14, Tryd.ntmps14
    go_wp2_with (go_at_call 25; refine (in_any _ _ _ _).mono ?_; rintro e w' ⟨rfl, rfl⟩; first | rw [F0.out] | rw [F1.out] | rw [F2.out] | rw [F3.out] | rw [F4.out] | rw [F5.out] | rw [F6.out] | rw [T.out])
    go_ret
    exact ⟨rfl, rfl⟩
  have F7 := Lib.hid (by simpa using t7 : inB c 945 969 = false)
  clear t7
  by_cases t8 : inB c 1024 1119 = true
  · obtain rfl : true = r := by rw [← hr]; simp [t8]
    clear hr
    have T := Lib.hid t8
    clear t8
    go_enter Tryd.func14, Tryd.ntmps14
    go_wp2_with (go_at_call 25; refine (in_any _ _ _ _).mono ?_; rintro e w' ⟨rfl, rfl⟩; first | rw [F0.out] | rw [F1.out] | rw [F2.out] | rw [F3.out] | rw [F4.out] | rw [F5.out] | rw [F6.out] | rw [F7.out] | rw [T.out])
    go_ret
    exact ⟨rfl, rfl⟩
  have F8 := Lib.hid (by simpa using t8 : inB c 1024 1119 = false)
  clear t8
  obtain rfl : false = r := by rw [← hr]; simp [F0.out, F1.out, F2.out, F3.out, F4.out, F5.out, F6.out, F7.out, F8.out]
  clear hr
  go_enter Tryd.func14, Tryd.ntmps14
  go_wp2_with (go_at_call 25; refine (in_any _ _ _ _).mono ?_; rintro e w' ⟨rfl, rfl⟩; first | rw [F0.out] | rw [F1.out] | rw [F2.out] | rw [F3.out] | rw [F4.out] | rw [F5.out] | rw [F6.out] | rw [F7.out] | rw [F8.out])
  go_ret
  exact ⟨rfl, rfl⟩

theorem small_first (c : Int) (h : inB c 1024 1039 = true) : Utf.small c = c + 80 ∧ 0 ≤ c ∧ c ≤ 1114111 := by
  simp [inB] at h
  refine ⟨?_, by omega, by omega⟩
  simp only [Utf.small, Utf.tabS, Utf.smallIn]
  repeat (first | rw [if_neg (by omega)] | rw [if_pos (by omega)])
theorem small_no3 (c : Int) (h : inB c 1024 1039 = false) (h0 : inB c 65 90 = false) (h1 : inB c 192 214 = false) (h2 : inB c 216 222 = false) (h3 : inB c 913 929 = false) (h4 : inB c 931 937 = false) (h5 : inB c 1040 1071 = false) : Utf.small c = c := by
  simp [inB] at h h0 h1 h2 h3 h4 h5
  simp only [Utf.small, Utf.tabS, Utf.smallIn]
  repeat (first | rw [if_neg (by omega)])
theorem small_in0 (c : Int) (h : inB c 65 90 = true) : Utf.small c = c + 32 ∧ 0 ≤ c ∧ c ≤ 1114111 := by
  simp [inB] at h
  refine ⟨?_, by omega, by omega⟩
  simp only [Utf.small, Utf.tabS, Utf.smallIn]
  repeat (first | rw [if_pos (by omega)] | rw [if_neg (by omega)])
theorem small_in1 (c : Int) (h : inB c 192 214 = true) : Utf.small c = c + 32 ∧ 0 ≤ c ∧ c ≤ 1114111 := by
  simp [inB] at h
  refine ⟨?_, by omega, by omega⟩
  simp only [Utf.small, Utf.tabS, Utf.smallIn]
  repeat (first | rw [if_pos (by omega)] | rw [if_neg (by omega)])
theorem small_in2 (c : Int) (h : inB c 216 222 = true) : Utf.small c = c + 32 ∧ 0 ≤ c ∧ c ≤ 1114111 := by
  simp [inB] at h
  refine ⟨?_, by omega, by omega⟩
  simp only [Utf.small, Utf.tabS, Utf.smallIn]
  repeat (first | rw [if_pos (by omega)] | rw [if_neg (by omega)])
theorem small_in3 (c : Int) (h : inB c 913 929 = true) : Utf.small c = c + 32 ∧ 0 ≤ c ∧ c ≤ 1114111 := by
  simp [inB] at h
  refine ⟨?_, by omega, by omega⟩
  simp only [Utf.small, Utf.tabS, Utf.smallIn]
  repeat (first | rw [if_pos (by omega)] | rw [if_neg (by omega)])
theorem small_in4 (c : Int) (h : inB c 931 937 = true) : Utf.small c = c + 32 ∧ 0 ≤ c ∧ c ≤ 1114111 := by
  simp [inB] at h
  refine ⟨?_, by omega, by omega⟩
  simp only [Utf.small, Utf.tabS, Utf.smallIn]
  repeat (first | rw [if_pos (by omega)] | rw [if_neg (by omega)])
theorem small_in5 (c : Int) (h : inB c 1040 1071 = true) : Utf.small c = c + 32 ∧ 0 ≤ c ∧ c ≤ 1114111 := by
  simp [inB] at h
  refine ⟨?_, by omega, by omega⟩
  simp only [Utf.small, Utf.tabS, Utf.smallIn]
  repeat (first | rw [if_pos (by omega)] | rw [if_neg (by omega)])
set_option maxHeartbeats 4000000 in
theorem rsmall_any (c : Int) (w : World) : Calls Tryd.prog 17 #[.int .i64 c] w fun e w' => e = .returned (.int .i64 (Utf.small c)) ∧ w = w' := by
  by_cases t : inB c 1024 1039 = true
  · obtain ⟨e1, c0, c1⟩ := small_first c t
    rw [e1]
    have T := Lib.hid t
    clear t e1
    go_enter Tryd.func17, Tryd.ntmps17
    go_wp2_with (go_at_call 25; refine (in_any _ _ _ _).mono ?_; rintro e w' ⟨rfl, rfl⟩; first | rw [T.out])
    go_ret
    exact ⟨rfl, rfl⟩
  have F := Lib.hid (by simpa using t : inB c 1024 1039 = false)
  clear t
  by_cases t0 : inB c 65 90 = true
  · obtain ⟨e1, c0, c1⟩ := small_in0 c t0
    rw [e1]
    have T := Lib.hid t0
    clear t0 e1
    go_enter Tryd.func17, Tryd.ntmps17
    go_wp2_with (go_at_call 25; refine (in_any _ _ _ _).mono ?_; rintro e w' ⟨rfl, rfl⟩; first | rw [F.out] | rw [T.out])
    go_ret
    exact ⟨rfl, rfl⟩
  have F0 := Lib.hid (by simpa using t0 : inB c 65 90 = false)
  clear t0
  by_cases t1 : inB c 192 214 = true
  · obtain ⟨e1, c0, c1⟩ := small_in1 c t1
    rw [e1]
    have T := Lib.hid t1
    clear t1 e1
    go_enter Tryd.func17, Tryd.ntmps17
    go_wp2_with (go_at_call 25; refine (in_any _ _ _ _).mono ?_; rintro e w' ⟨rfl, rfl⟩; first | rw [F.out] | rw [F0.out] | rw [T.out])
    go_ret
    exact ⟨rfl, rfl⟩
  have F1 := Lib.hid (by simpa using t1 : inB c 192 214 = false)
  clear t1
  by_cases t2 : inB c 216 222 = true
  · obtain ⟨e1, c0, c1⟩ := small_in2 c t2
    rw [e1]
    have T := Lib.hid t2
    clear t2 e1
    go_enter Tryd.func17, Tryd.ntmps17
    go_wp2_with (go_at_call 25; refine (in_any _ _ _ _).mono ?_; rintro e w' ⟨rfl, rfl⟩; first | rw [F.out] | rw [F0.out] | rw [F1.out] | rw [T.out])
    go_ret
    exact ⟨rfl, rfl⟩
  have F2 := Lib.hid (by simpa using t2 : inB c 216 222 = false)
  clear t2
  by_cases t3 : inB c 913 929 = true
  · obtain ⟨e1, c0, c1⟩ := small_in3 c t3
    rw [e1]
    have T := Lib.hid t3
    clear t3 e1
    go_enter Tryd.func17, Tryd.ntmps17
    go_wp2_with (go_at_call 25; refine (in_any _ _ _ _).mono ?_; rintro e w' ⟨rfl, rfl⟩; first | rw [F.out] | rw [F0.out] | rw [F1.out] | rw [F2.out] | rw [T.out])
    go_ret
    exact ⟨rfl, rfl⟩
  have F3 := Lib.hid (by simpa using t3 : inB c 913 929 = false)
  clear t3
  by_cases t4 : inB c 931 937 = true
  · obtain ⟨e1, c0, c1⟩ := small_in4 c t4
    rw [e1]
    have T := Lib.hid t4
    clear t4 e1
    go_enter Tryd.func17, Tryd.ntmps17
    go_wp2_with (go_at_call 25; refine (in_any _ _ _ _).mono ?_; rintro e w' ⟨rfl, rfl⟩; first | rw [F.out] | rw [F0.out] | rw [F1.out] | rw [F2.out] | rw [F3.out] | rw [T.out])
    go_ret
    exact ⟨rfl, rfl⟩
  have F4 := Lib.hid (by simpa using t4 : inB c 931 937 = false)
  clear t4
  by_cases t5 : inB c 1040 1071 = true
  · obtain ⟨e1, c0, c1⟩ := small_in5 c t5
    rw [e1]
    have T := Lib.hid t5
    clear t5 e1
    go_enter Tryd.func17, Tryd.ntmps17
    go_wp2_with (go_at_call 25; refine (in_any _ _ _ _).mono ?_; rintro e w' ⟨rfl, rfl⟩; first | rw [F.out] | rw [F0.out] | rw [F1.out] | rw [F2.out] | rw [F3.out] | rw [F4.out] | rw [T.out])
    go_ret
    exact ⟨rfl, rfl⟩
  have F5 := Lib.hid (by simpa using t5 : inB c 1040 1071 = false)
  clear t5
  rw [small_no3 c F.out F0.out F1.out F2.out F3.out F4.out F5.out]
  go_enter Tryd.func17, Tryd.ntmps17
  go_wp2_with (go_at_call 25; refine (in_any _ _ _ _).mono ?_; rintro e w' ⟨rfl, rfl⟩; first | rw [F.out] | rw [F0.out] | rw [F1.out] | rw [F2.out] | rw [F3.out] | rw [F4.out] | rw [F5.out])
  go_ret
  exact ⟨rfl, rfl⟩

def REncPost (c : Int) (w : World) (e : Ending) (w' : World) : Prop :=
  ∃ A k, e = .returned (.slice A (Utf.enc c).length k) ∧ Rd w' w'.heap.size A ((Utf.enc c).map bv) ∧ (Utf.enc c).length ≤ k ∧ k ≤ maxLen ∧ Below w.heap.size w w'
theorem rencPost_ok (c : Int) (w : World) (cs : List Value) (hcs : (Utf.enc c).map bv = cs) (n : Nat) (hn : cs.length = n) (hk : n ≤ 4) (t : TypeId) :
    REncPost c w (.returned (.slice (some ⟨w.heap.size, 0, none⟩) n n)) (w.alloc (.cells cs.toArray t)) := by
  have hl : (Utf.enc c).length = n := by rw [← hn, ← hcs]; simp
  unfold REncPost
  rw [hl, hcs]
  refine ⟨_, n, rfl, ?_, Nat.le_refl _, by unfold maxLen; omega, (Below.refl _ _).alloc (Nat.le_refl _) _⟩
  have := rd_new w cs t (0, 0)
  simpa using this
theorem rencode_any (c : Int) (w : World) (hr : Utf.right c = true) : Calls Tryd.prog 21 #[.int .i64 c] w (REncPost c w) := by
  obtain ⟨h0, h1⟩ := enc_right c hr
  have hfin := rencPost_ok c w
  clear hr
  by_cases k1 : c < 128
  · have he : (Utf.enc c).map bv = [.int .u8 (c)] := by
      unfold Utf.enc; rw [if_pos k1]; simp only [List.map_cons, List.map_nil]; rw [bv_u8 _ (by omega) (by omega)]
    have HF := Lib.hid (hfin _ he 1 rfl (by omega) 5)
    clear hfin he
    go_enter Tryd.func21, Tryd.ntmps21
    go_wp2
    go_ret
    exact HF.out
  by_cases k2 : c < 2048
  · have he : (Utf.enc c).map bv = [.int .u8 (192 + c / 64), .int .u8 (128 + c % 64)] := by
      unfold Utf.enc; rw [if_neg k1, if_pos k2]; simp only [List.map_cons, List.map_nil]; rw [bv_u8 _ (by omega) (by omega), bv_u8 _ (by omega) (by omega)]
    have HF := Lib.hid (hfin _ he 2 rfl (by omega) 5)
    clear hfin he
    go_enter Tryd.func21, Tryd.ntmps21
    go_wp2
    go_ret
    exact HF.out
  by_cases k3 : c < 65536
  · have he : (Utf.enc c).map bv = [.int .u8 (224 + c / 4096), .int .u8 (128 + c / 64 % 64), .int .u8 (128 + c % 64)] := by
      unfold Utf.enc; rw [if_neg k1, if_neg k2, if_pos k3]; simp only [List.map_cons, List.map_nil]; rw [bv_u8 _ (by omega) (by omega), bv_u8 _ (by omega) (by omega), bv_u8 _ (by omega) (by omega)]
    have HF := Lib.hid (hfin _ he 3 rfl (by omega) 5)
    clear hfin he
    go_enter Tryd.func21, Tryd.ntmps21
    go_wp2
    go_ret
    exact HF.out
  · have he : (Utf.enc c).map bv = [.int .u8 (240 + c / 262144), .int .u8 (128 + c / 4096 % 64), .int .u8 (128 + c / 64 % 64), .int .u8 (128 + c % 64)] := by
      unfold Utf.enc; rw [if_neg k1, if_neg k2, if_neg k3]; simp only [List.map_cons, List.map_nil]; rw [bv_u8 _ (by omega) (by omega), bv_u8 _ (by omega) (by omega), bv_u8 _ (by omega) (by omega), bv_u8 _ (by omega) (by omega)]
    have HF := Lib.hid (hfin _ he 4 rfl (by omega) 5)
    clear hfin he
    go_enter Tryd.func21, Tryd.ntmps21
    go_wp2
    go_ret
    exact HF.out
end Go.Proofs.YtabndfboohgioaaDoor
