/- The walks of package utf's functions: what each computes. -/
import Derived.Test.YtabndfboohgioaaDoorGen
import Derived.Test.YtabndfboohgioaaDoorBits
import Derived.Test.YtabndfboohgioaaDoorUtfPlain
namespace Go.Proofs.YtabndfboohgioaaDoor
set_option linter.unusedVariables false
open Go.RowKit

theorem info_u8 : (Tryd.prog.info? 5).map (fun i => (i.zero, i.size, i.bytes)) = some (some (.int .u8 0), 1, 1) := by kernel_rfl
theorem info_int : (Tryd.prog.info? 3).map (fun i => (i.zero, i.size, i.bytes)) = some (some (.int .i64 0), 1, 8) := by kernel_rfl
theorem size_u8 : (Tryd.prog.info? 5).map (·.size) = some 1 := by kernel_rfl
theorem size_int : (Tryd.prog.info? 3).map (·.size) = some 1 := by kernel_rfl
theorem bytesT : ElemT Tryd.prog 22 5 1 1 := ElemT.mk' Tryd.underlying22 info_u8 rfl (by omega)
theorem intsT : ElemT Tryd.prog 24 3 1 8 := ElemT.mk' Tryd.underlying24 info_int rfl (by omega)

theorem right_any (c : Int) (w : World) : Calls Tryd.prog 18 #[.int .i64 c] w fun e w' => e = .returned (.bool (Utf.right c)) ∧ w = w' := by
  obtain ⟨r, hr⟩ : ∃ r, Utf.right c = r := ⟨_, rfl⟩
  rw [hr]
  unfold Utf.right at hr
  by_cases h1 : 0 ≤ c
  · by_cases h2 : c ≤ 1114111
    · by_cases h3 : c < 55296
      · obtain rfl : true = r := by rw [← hr]; simp [h1, h2, h3]
        clear hr
        go_enter Tryd.func18, Tryd.ntmps18
        go_wp2
        go_ret
        exact ⟨rfl, rfl⟩
      · by_cases h4 : 57343 < c
        · obtain rfl : true = r := by rw [← hr]; simp [h1, h2, h4]
          clear hr
          go_enter Tryd.func18, Tryd.ntmps18
          go_wp2
          go_ret
          exact ⟨rfl, rfl⟩
        · obtain rfl : false = r := by rw [← hr]; simp [h1, h2, h3, h4]
          clear hr
          go_enter Tryd.func18, Tryd.ntmps18
          go_wp2
          go_ret
          exact ⟨rfl, rfl⟩
    · obtain rfl : false = r := by rw [← hr]; simp [h1, h2]
      clear hr
      go_enter Tryd.func18, Tryd.ntmps18
      go_wp2
      go_ret
      exact ⟨rfl, rfl⟩
  · obtain rfl : false = r := by rw [← hr]; simp [h1]
    clear hr
    go_enter Tryd.func18, Tryd.ntmps18
    go_wp2
    go_ret
    exact ⟨rfl, rfl⟩

theorem digit_any (c : Int) (w : World) : Calls Tryd.prog 15 #[.int .i64 c] w fun e w' => e = .returned (.bool (Utf.digit c)) ∧ w = w' := by
  obtain ⟨r, hr⟩ : ∃ r, Utf.digit c = r := ⟨_, rfl⟩
  rw [hr]
  unfold Utf.digit at hr
  by_cases h1 : 48 ≤ c
  · by_cases h2 : c ≤ 57
    · obtain rfl : true = r := by rw [← hr]; simp [h1, h2]
      clear hr
      go_enter Tryd.func15, Tryd.ntmps15
      go_wp2
      go_ret
      exact ⟨rfl, rfl⟩
    · obtain rfl : false = r := by rw [← hr]; simp [h2]
      clear hr
      go_enter Tryd.func15, Tryd.ntmps15
      go_wp2
      go_ret
      exact ⟨rfl, rfl⟩
  · obtain rfl : false = r := by rw [← hr]; simp [h1]
    clear hr
    go_enter Tryd.func15, Tryd.ntmps15
    go_wp2
    go_ret
    exact ⟨rfl, rfl⟩

theorem size_any (c : Int) (w : World) : Calls Tryd.prog 26 #[.int .i64 c] w fun e w' => e = .returned (.int .i64 (Utf.size c)) ∧ w = w' := by
  obtain ⟨r, hr⟩ : ∃ r, Utf.size c = r := ⟨_, rfl⟩
  rw [hr]
  unfold Utf.size at hr
  by_cases h1 : c < 128
  · obtain rfl : 1 = r := by rw [← hr]; simp [h1]
    clear hr
    go_enter Tryd.func26, Tryd.ntmps26
    go_wp2
    go_ret
    exact ⟨rfl, rfl⟩
  · by_cases h2 : c < 2048
    · obtain rfl : 2 = r := by rw [← hr]; simp [h1, h2]
      clear hr
      go_enter Tryd.func26, Tryd.ntmps26
      go_wp2
      go_ret
      exact ⟨rfl, rfl⟩
    · by_cases h3 : c < 65536
      · obtain rfl : 3 = r := by rw [← hr]; simp [h1, h2, h3]
        clear hr
        go_enter Tryd.func26, Tryd.ntmps26
        go_wp2
        go_ret
        exact ⟨rfl, rfl⟩
      · obtain rfl : 4 = r := by rw [← hr]; simp [h1, h2, h3]
        clear hr
        go_enter Tryd.func26, Tryd.ntmps26
        go_wp2
        go_ret
        exact ⟨rfl, rfl⟩

theorem more_any (c : Int) (w : World) (h0 : 0 ≤ c) (h1 : c ≤ 1114111) : Calls Tryd.prog 27 #[.int .i64 c] w fun e w' => e = .returned (.int .u8 (128 + c % 64)) ∧ w = w' := by
  have e1 : bits .and .i64 c 63 = c % 64 := Bit.mask 6 c 63 64 h0 (by omega) (by omega) rfl rfl
  have e2 : bits .or .u8 128 (c % 64 % 256) = 128 + c % 64 := by
    rw [Bit.join8 6 128 (c % 64 % 256) 64 rfl (by omega) (by omega) (by omega) (by omega) (by omega) (by omega)]; omega
  have E1 := Lib.hid e1
  have E2 := Lib.hid e2
  clear e1 e2
  go_enter Tryd.func27, Tryd.ntmps27
  go_wp2
  go_ret
  exact ⟨by simp [E1.out, E2.out], rfl⟩

theorem enc_right (c : Int) (h : Utf.right c = true) : 0 ≤ c ∧ c ≤ 1114111 := by
  unfold Utf.right at h
  simp at h
  omega
theorem bv_u8 (n : Int) (h0 : 0 ≤ n) (h1 : n < 256) : bv (Utf.u8 n) = .int .u8 n := by
  unfold bv Utf.u8
  rw [Bit.toNat_u8 n h0 h1]
/-- What Encode gives: the bytes in new memory, or nothing and the error. -/
def EncPost (c : Int) (w : World) (e : Ending) (w' : World) : Prop :=
  Below w.heap.size w w' ∧ if Utf.right c = true then ∃ A k, e = .returned (.tuple #[.slice A (Utf.enc c).length k, .int .i64 0]) ∧ Rd w' w'.heap.size A ((Utf.enc c).map bv) ∧ (Utf.enc c).length ≤ k ∧ k ≤ maxLen
    else e = .returned (.tuple #[.slice none 0 0, .int .i64 1])
theorem encPost_ok (c : Int) (w : World) (h : Utf.right c = true) (cs : List Value) (hcs : (Utf.enc c).map bv = cs) (n : Nat) (hn : cs.length = n) (hk : n ≤ 4) (t : TypeId) :
    EncPost c w (.returned (.tuple #[.slice (some ⟨w.heap.size, 0, none⟩) n n, .int .i64 0])) (w.alloc (.cells cs.toArray t)) := by
  refine ⟨(Below.refl _ _).alloc (Nat.le_refl _) _, ?_⟩
  rw [if_pos h]
  have hl : (Utf.enc c).length = n := by rw [← hn, ← hcs]; simp
  rw [hl, hcs]
  refine ⟨_, n, rfl, ?_, Nat.le_refl _, by unfold maxLen; omega⟩
  have := rd_new w cs t (0, 0)
  simpa using this
theorem encode_any (c : Int) (w : World) : Calls Tryd.prog 19 #[.int .i64 c] w (EncPost c w) := by
  by_cases hr : Utf.right c = true
  · obtain ⟨h0, h1⟩ := enc_right c hr
    have hfin := encPost_ok c w hr
    have HR := Lib.hid hr
    by_cases k1 : c < 128
    · have he : (Utf.enc c).map bv = [.int .u8 (c)] := by
        unfold Utf.enc; rw [if_pos k1]; simp only [List.map_cons, List.map_nil]; rw [bv_u8 _ (by omega) (by omega)]
      have hs : Utf.size c = 1 := by unfold Utf.size; rw [if_pos k1]
      have HF := Lib.hid (hfin _ he 1 rfl (by omega) 5)
      clear hfin he
      have HS := Lib.hid hs
      clear hs hr
      go_enter Tryd.func19, Tryd.ntmps19
      go_wp2_with (first | (go_at_call 18; refine (right_any _ _).mono ?_; rintro e w' ⟨rfl, rfl⟩; rw [HR.out]) | (go_at_call 26; refine (size_any _ _).mono ?_; rintro e w' ⟨rfl, rfl⟩; rw [HS.out]) | (go_at_call 27; refine (more_any _ _ (by omega) (by omega)).mono ?_; rintro e w' ⟨rfl, rfl⟩))
      go_ret2
      exact HF.out
    by_cases k2 : c < 2048
    · have he : (Utf.enc c).map bv = [.int .u8 (192 + c / 64), .int .u8 (128 + c % 64)] := by
        unfold Utf.enc; rw [if_neg k1, if_pos k2]; simp only [List.map_cons, List.map_nil]; rw [bv_u8 _ (by omega) (by omega), bv_u8 _ (by omega) (by omega)]
      have hs : Utf.size c = 2 := by unfold Utf.size; rw [if_neg k1, if_pos k2]
      have HF := Lib.hid (hfin _ he 2 rfl (by omega) 5)
      clear hfin he
      have HS := Lib.hid hs
      clear hs hr
      have ho : bits .or .u8 192 (c / 64) = 192 + c / 64 := Bit.join8 5 192 _ 32 rfl (by omega) (by omega) (by omega) (by omega) (by omega) (by omega)
      go_enter Tryd.func19, Tryd.ntmps19
      go_wp2_with (first | (go_at_call 18; refine (right_any _ _).mono ?_; rintro e w' ⟨rfl, rfl⟩; rw [HR.out]) | (go_at_call 26; refine (size_any _ _).mono ?_; rintro e w' ⟨rfl, rfl⟩; rw [HS.out]) | (go_at_call 27; refine (more_any _ _ (by omega) (by omega)).mono ?_; rintro e w' ⟨rfl, rfl⟩))
      go_ret2
      exact HF.out
    by_cases k3 : c < 65536
    · have he : (Utf.enc c).map bv = [.int .u8 (224 + c / 4096), .int .u8 (128 + c / 64 % 64), .int .u8 (128 + c % 64)] := by
        unfold Utf.enc; rw [if_neg k1, if_neg k2, if_pos k3]; simp only [List.map_cons, List.map_nil]; rw [bv_u8 _ (by omega) (by omega), bv_u8 _ (by omega) (by omega), bv_u8 _ (by omega) (by omega)]
      have hs : Utf.size c = 3 := by unfold Utf.size; rw [if_neg k1, if_neg k2, if_pos k3]
      have HF := Lib.hid (hfin _ he 3 rfl (by omega) 5)
      clear hfin he
      have HS := Lib.hid hs
      clear hs hr
      have ho : bits .or .u8 224 (c / 4096) = 224 + c / 4096 := Bit.join8 4 224 _ 16 rfl (by omega) (by omega) (by omega) (by omega) (by omega) (by omega)
      go_enter Tryd.func19, Tryd.ntmps19
      go_wp2_with (first | (go_at_call 18; refine (right_any _ _).mono ?_; rintro e w' ⟨rfl, rfl⟩; rw [HR.out]) | (go_at_call 26; refine (size_any _ _).mono ?_; rintro e w' ⟨rfl, rfl⟩; rw [HS.out]) | (go_at_call 27; refine (more_any _ _ (by omega) (by omega)).mono ?_; rintro e w' ⟨rfl, rfl⟩))
      go_ret2
      exact HF.out
    · have he : (Utf.enc c).map bv = [.int .u8 (240 + c / 262144), .int .u8 (128 + c / 4096 % 64), .int .u8 (128 + c / 64 % 64), .int .u8 (128 + c % 64)] := by
        unfold Utf.enc; rw [if_neg k1, if_neg k2, if_neg k3]; simp only [List.map_cons, List.map_nil]; rw [bv_u8 _ (by omega) (by omega), bv_u8 _ (by omega) (by omega), bv_u8 _ (by omega) (by omega), bv_u8 _ (by omega) (by omega)]
      have hs : Utf.size c = 4 := by unfold Utf.size; rw [if_neg k1, if_neg k2, if_neg k3]
      have HF := Lib.hid (hfin _ he 4 rfl (by omega) 5)
      clear hfin he
      have HS := Lib.hid hs
      clear hs hr
      have ho : bits .or .u8 240 (c / 262144) = 240 + c / 262144 := Bit.join8 3 240 _ 8 rfl (by omega) (by omega) (by omega) (by omega) (by omega) (by omega)
      go_enter Tryd.func19, Tryd.ntmps19
      go_wp2_with (first | (go_at_call 18; refine (right_any _ _).mono ?_; rintro e w' ⟨rfl, rfl⟩; rw [HR.out]) | (go_at_call 26; refine (size_any _ _).mono ?_; rintro e w' ⟨rfl, rfl⟩; rw [HS.out]) | (go_at_call 27; refine (more_any _ _ (by omega) (by omega)).mono ?_; rintro e w' ⟨rfl, rfl⟩))
      go_ret2
      exact HF.out
  · have hf : Utf.right c = false := by simpa using hr
    have hfin : EncPost c w (.returned (.tuple #[.slice none 0 0, .int .i64 1])) w := ⟨Below.refl _ _, by rw [if_neg hr]⟩
    have HF := Lib.hid hfin
    have HR := Lib.hid hf
    clear hfin hf hr
    go_enter Tryd.func19, Tryd.ntmps19
    go_wp2_with (go_at_call 18; refine (right_any _ _).mono ?_; rintro e w' ⟨rfl, rfl⟩; rw [HR.out])
    go_ret2
    exact HF.out
end Go.Proofs.YtabndfboohgioaaDoor
